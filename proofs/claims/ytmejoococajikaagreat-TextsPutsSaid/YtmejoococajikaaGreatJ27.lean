/- Joined texts: DTake. Each has its own head line. No condition beyond those that its theorems state. -/
import Derived.Test.YtmejoococajikaaGreatJ14
import Derived.Test.YtmejoococajikaaGreatJ23
import Derived.Test.YtmejoococajikaaGreatJ24
set_option linter.unusedVariables false

/- direct.Take and its reference. -/
namespace Go.Proofs.YtmejoococajikaaGreat
open Go.RowKit

def takeD (b : List Int) (s : Bool) : List Int × List Int × Int :=
  if (lookR b).2.2.2.2 ≠ 0 ∨ (lookR b).1 ≠ 1 then ([], [], 2)
  else if (unpackR (lookR b).2.2.2.1 (lookR b).2.2.1 (wOf (lookR b).2.1)).2.2 ≠ 0 then ([], [], 2)
  else if (madeL (unpackR (lookR b).2.2.2.1 (lookR b).2.2.1 (wOf (lookR b).2.1)).1 s).2 ≠ 0 then ([], [], 2)
  else ((madeL (unpackR (lookR b).2.2.2.1 (lookR b).2.2.1 (wOf (lookR b).2.1)).1 s).1, (unpackR (lookR b).2.2.2.1 (lookR b).2.2.1 (wOf (lookR b).2.1)).2.1, 0)
/-- Numbers, bytes and an error's number are handed back. -/
def TakeOutD (w : World) (l1 l2 : List Int) (er : Int) (e : Ending) (w' : World) : Prop :=
  ∃ G n c G2 n2 c2, e = .returned (.tuple #[.slice G n c, .slice G2 n2 c2, .int .i64 er]) ∧ Sl w' .i64 G n c l1 ∧ Sl w' .u8 G2 n2 c2 l2 ∧ Below w.heap.size w w'
theorem lookR_good (b : List Int) (hu : U8 b) : U8 (lookR b).2.2.2.1 ∧ ((lookR b).2.2.2.2 = 0 ∨ (lookR b).2.2.2.2 = 2) ∧ (0 ≤ (lookR b).2.1 ∧ (lookR b).2.1 < 32) ∧ (lookR b).2.2.2.1.length ≤ b.length := by
  unfold lookR
  split
  · exact ⟨fun x hx => by (cases hx), .inr rfl, by simp, by simp⟩
  · exact ⟨fun x hx => hu x (List.mem_of_mem_drop hx), .inl rfl, ⟨by dsimp only; omega, by dsimp only; omega⟩, by simp⟩

set_option maxRecDepth 100000 in
set_option maxHeartbeats 1000000 in
theorem DTake_any (w : World) (A : Option Addr) (n cap : Nat) (b : List Int) (hr : Ri w .u8 A n b) (hu : U8 b) (hc : n ≤ cap) (hm : cap ≤ 9223372036854775807) (hn : n ≤ 1000000) (s : Bool) (l r : List Int) (er : Int) (hl : takeD b s = (l, r, er)) :
    Calls Tryz.prog 140 #[.slice A n cap, .bool s] w (TakeOutD w l r er) := by
  have HR := Lib.hid hr; have HU := Lib.hid hu; have HN := Lib.hid hr.len
  obtain ⟨g1, g2, g3, g4⟩ := lookR_good b hu
  rw [hr.len] at g4
  unfold takeD at hl
  clear hr hu
  obtain ⟨k, c, m, q, e1, hlk⟩ : ∃ k c m q e1, lookR b = (k, c, m, q, e1) := ⟨_, _, _, _, _, rfl⟩
  rw [hlk] at hl g1 g2 g3 g4
  dsimp only at hl g1 g2 g3 g4
  have HLK := Lib.hid hlk; have HU1 := Lib.hid g1
  clear hlk g1
  by_cases h1 : e1 ≠ 0 ∨ k ≠ 1
  · rw [if_pos h1] at hl
    injection hl with a1 hl; injection hl with a2 a3
    subst a1 a2 a3
    have hcase : e1 = 2 ∨ (e1 = 0 ∧ ¬ k = 1) := by omega
    clear h1 g2 g3 g4
    rcases hcase with rfl | ⟨rfl, hk⟩
    all_goals
      go_enter Tryz.func140, Tryz.ntmps140
      go_wp2_with fail
      refine (Look_any _ _ _ _ b HR.out HU.out hc hm hn k c m q _ HLK.out).mono ?_; rintro e w1 ⟨G1, n1, c1, rfl, hs1, hb1⟩
      go_wp2_with fail
      go_returns
      exact ⟨none, 0, 0, none, 0, 0, rfl, Sl.nil _ _, Sl.nil _ _, hb1⟩
  · rw [if_neg h1] at hl
    obtain ⟨rfl, rfl⟩ : e1 = 0 ∧ k = 1 := by omega
    obtain ⟨u, t, e2, hup⟩ : ∃ u t e2, unpackR q m (wOf c) = (u, t, e2) := ⟨_, _, _, rfl⟩
    have gu := unpackR_u64 q m (wOf c); have gl := unpackR_len q m (wOf c)
    rw [hup] at hl gu gl
    dsimp only at hl gu gl
    have HUP := Lib.hid hup; have HU2 := Lib.hid gu
    clear hup gu h1 g2
    by_cases h2 : e2 ≠ 0
    · rw [if_pos h2] at hl
      injection hl with a1 hl; injection hl with a2 a3
      subst a1 a2 a3
      have h2' : ¬ e2 = 0 := h2
      clear h2
      go_enter Tryz.func140, Tryz.ntmps140
      go_wp2_with fail
      refine (Look_any _ _ _ _ b HR.out HU.out hc hm hn 1 c m q 0 HLK.out).mono ?_; rintro e w1 ⟨G1, n1, c1, rfl, hs1, hb1⟩
      have hn1 := hs1.1.len
      go_wp2_with fail
      refine (Of_any _ _).mono ?_; rintro e wo ⟨rfl, hbo⟩
      go_wp2_with fail
      refine (Unpack_any _ _ _ _ q m (wOf c) (hs1.1.below hbo) HU1.out hs1.2.1 (by omega) u t e2 HUP.out).mono ?_; rintro e w2 ⟨G2, n2, c2, G3, n3, c3, rfl, hs2, hs3, hb2⟩
      go_wp2_with fail
      go_returns
      exact ⟨none, 0, 0, none, 0, 0, rfl, Sl.nil _ _, Sl.nil _ _, on (on hb1 hbo) hb2⟩
    · rw [if_neg h2] at hl
      obtain rfl : e2 = 0 := by omega
      obtain ⟨p, e3, hmd⟩ : ∃ p e3, madeL u s = (p, e3) := ⟨_, _, rfl⟩
      rw [hmd] at hl
      dsimp only at hl
      have HMD := Lib.hid hmd
      clear hmd h2
      have h3c : Hid (e3 ≠ 0 ∧ e3 = 2 ∧ l = [] ∧ r = [] ∧ er = 2 ∨ e3 = 0 ∧ l = p ∧ r = t ∧ er = 0) := by
        by_cases h3 : e3 ≠ 0
        · rw [if_pos h3] at hl
          injection hl with a1 hl; injection hl with a2 a3
          have h4 : e3 = 2 := by
            have := HMD.out
            unfold madeL mapOk at this
            cases s
            · rw [if_neg (by simp)] at this
              split at this
              · injection this with _ h; omega
              · injection this with _ h; omega
            · rw [if_pos rfl] at this
              split at this
              · injection this with _ h; omega
              · injection this with _ h; omega
          exact .inl ⟨h3, h4, a1.symm, a2.symm, a3.symm⟩
        · rw [if_neg h3] at hl
          injection hl with a1 hl; injection hl with a2 a3
          exact .inr ⟨by omega, a1.symm, a2.symm, a3.symm⟩
      clear hl
      rcases h3c.out with ⟨_, rfl, rfl, rfl, rfl⟩ | ⟨rfl, rfl, rfl, rfl⟩
      all_goals
        clear h3c
        go_enter Tryz.func140, Tryz.ntmps140
        go_wp2_with fail
        refine (Look_any _ _ _ _ b HR.out HU.out hc hm hn 1 c m q 0 HLK.out).mono ?_; rintro e w1 ⟨G1, n1, c1, rfl, hs1, hb1⟩
        have hn1 := hs1.1.len
        go_wp2_with fail
        refine (Of_any _ _).mono ?_; rintro e wo ⟨rfl, hbo⟩
        go_wp2_with fail
        refine (Unpack_any _ _ _ _ q m (wOf c) (hs1.1.below hbo) HU1.out hs1.2.1 (by omega) u _ 0 HUP.out).mono ?_; rintro e w2 ⟨G2, n2, c2, G3, n3, c3, rfl, hs2, hs3, hb2⟩
        have hn2 := hs2.1.len
        go_wp2_with fail
        refine (Made_any _ _ _ _ u hs2.1 HU2.out (by omega) s _ _ HMD.out).mono ?_; rintro e w3 ⟨G4, n4, c4, rfl, hs4, hb4⟩
        go_wp2_with fail
        go_returns
        first
          | exact ⟨none, 0, 0, none, 0, 0, rfl, Sl.nil _ _, Sl.nil _ _, on (on (on hb1 hbo) hb2) hb4⟩
          | exact ⟨_, _, _, _, _, _, rfl, hs4, hs3.below hb4, on (on (on hb1 hbo) hb2) hb4⟩

set_option maxRecDepth 100000 in
set_option maxHeartbeats 1000000 in
theorem refDTake_any (w : World) (A : Option Addr) (n cap : Nat) (b : List Int) (hr : Ri w .u8 A n b) (hu : U8 b) (hc : n ≤ cap) (hm : cap ≤ 9223372036854775807) (hn : n ≤ 1000000) (s : Bool) (l r : List Int) (er : Int) (hl : takeD b s = (l, r, er)) :
    Calls Tryz.prog 71 #[.slice A n cap, .bool s] w (TakeOutD w l r er) := by
  have HR := Lib.hid hr; have HU := Lib.hid hu; have HN := Lib.hid hr.len
  obtain ⟨g1, g2, g3, g4⟩ := lookR_good b hu
  rw [hr.len] at g4
  unfold takeD at hl
  clear hr hu
  obtain ⟨k, c, m, q, e1, hlk⟩ : ∃ k c m q e1, lookR b = (k, c, m, q, e1) := ⟨_, _, _, _, _, rfl⟩
  rw [hlk] at hl g1 g2 g3 g4
  dsimp only at hl g1 g2 g3 g4
  have HLK := Lib.hid hlk; have HU1 := Lib.hid g1
  clear hlk g1
  by_cases h1 : e1 ≠ 0 ∨ k ≠ 1
  · rw [if_pos h1] at hl
    injection hl with a1 hl; injection hl with a2 a3
    subst a1 a2 a3
    have hcase : e1 = 2 ∨ (e1 = 0 ∧ ¬ k = 1) := by omega
    clear h1 g2 g3 g4
    rcases hcase with rfl | ⟨rfl, hk⟩
    all_goals
      go_enter Tryz.func71, Tryz.ntmps71
      go_wp2_with fail
      refine (refLook_any _ _ _ _ b HR.out HU.out hc hm hn k c m q _ HLK.out).mono ?_; rintro e w1 ⟨G1, n1, c1, rfl, hs1, hb1⟩
      go_wp2_with fail
      go_returns
      exact ⟨none, 0, 0, none, 0, 0, rfl, Sl.nil _ _, Sl.nil _ _, hb1⟩
  · rw [if_neg h1] at hl
    obtain ⟨rfl, rfl⟩ : e1 = 0 ∧ k = 1 := by omega
    obtain ⟨u, t, e2, hup⟩ : ∃ u t e2, unpackR q m (wOf c) = (u, t, e2) := ⟨_, _, _, rfl⟩
    have gu := unpackR_u64 q m (wOf c); have gl := unpackR_len q m (wOf c)
    rw [hup] at hl gu gl
    dsimp only at hl gu gl
    have HUP := Lib.hid hup; have HU2 := Lib.hid gu
    clear hup gu h1 g2
    by_cases h2 : e2 ≠ 0
    · rw [if_pos h2] at hl
      injection hl with a1 hl; injection hl with a2 a3
      subst a1 a2 a3
      have h2' : ¬ e2 = 0 := h2
      clear h2
      go_enter Tryz.func71, Tryz.ntmps71
      go_wp2_with fail
      refine (refLook_any _ _ _ _ b HR.out HU.out hc hm hn 1 c m q 0 HLK.out).mono ?_; rintro e w1 ⟨G1, n1, c1, rfl, hs1, hb1⟩
      have hn1 := hs1.1.len
      go_wp2_with fail
      refine (refOf_any _ _ (by omega) (by omega)).mono ?_; rintro e w' ⟨rfl, rfl⟩
      have hbo := Below.refl w1.heap.size w1
      go_wp2_with fail
      refine (refUnpack_any _ _ _ _ q m (wOf c) (hs1.1.below hbo) HU1.out hs1.2.1 (by omega) u t e2 HUP.out).mono ?_; rintro e w2 ⟨G2, n2, c2, G3, n3, c3, rfl, hs2, hs3, hb2⟩
      go_wp2_with fail
      go_returns
      exact ⟨none, 0, 0, none, 0, 0, rfl, Sl.nil _ _, Sl.nil _ _, on (on hb1 hbo) hb2⟩
    · rw [if_neg h2] at hl
      obtain rfl : e2 = 0 := by omega
      obtain ⟨p, e3, hmd⟩ : ∃ p e3, madeL u s = (p, e3) := ⟨_, _, rfl⟩
      rw [hmd] at hl
      dsimp only at hl
      have HMD := Lib.hid hmd
      clear hmd h2
      have h3c : Hid (e3 ≠ 0 ∧ e3 = 2 ∧ l = [] ∧ r = [] ∧ er = 2 ∨ e3 = 0 ∧ l = p ∧ r = t ∧ er = 0) := by
        by_cases h3 : e3 ≠ 0
        · rw [if_pos h3] at hl
          injection hl with a1 hl; injection hl with a2 a3
          have h4 : e3 = 2 := by
            have := HMD.out
            unfold madeL mapOk at this
            cases s
            · rw [if_neg (by simp)] at this
              split at this
              · injection this with _ h; omega
              · injection this with _ h; omega
            · rw [if_pos rfl] at this
              split at this
              · injection this with _ h; omega
              · injection this with _ h; omega
          exact .inl ⟨h3, h4, a1.symm, a2.symm, a3.symm⟩
        · rw [if_neg h3] at hl
          injection hl with a1 hl; injection hl with a2 a3
          exact .inr ⟨by omega, a1.symm, a2.symm, a3.symm⟩
      clear hl
      rcases h3c.out with ⟨_, rfl, rfl, rfl, rfl⟩ | ⟨rfl, rfl, rfl, rfl⟩
      all_goals
        clear h3c
        go_enter Tryz.func71, Tryz.ntmps71
        go_wp2_with fail
        refine (refLook_any _ _ _ _ b HR.out HU.out hc hm hn 1 c m q 0 HLK.out).mono ?_; rintro e w1 ⟨G1, n1, c1, rfl, hs1, hb1⟩
        have hn1 := hs1.1.len
        go_wp2_with fail
        refine (refOf_any _ _ (by omega) (by omega)).mono ?_; rintro e w' ⟨rfl, rfl⟩
        have hbo := Below.refl w1.heap.size w1
        go_wp2_with fail
        refine (refUnpack_any _ _ _ _ q m (wOf c) (hs1.1.below hbo) HU1.out hs1.2.1 (by omega) u _ 0 HUP.out).mono ?_; rintro e w2 ⟨G2, n2, c2, G3, n3, c3, rfl, hs2, hs3, hb2⟩
        have hn2 := hs2.1.len
        go_wp2_with fail
        refine (refMade8_any _ _ _ _ u hs2.1 HU2.out (by omega) s _ _ HMD.out).mono ?_; rintro e w3 ⟨G4, n4, c4, rfl, hs4, hb4⟩
        go_wp2_with fail
        go_returns
        first
          | exact ⟨none, 0, 0, none, 0, 0, rfl, Sl.nil _ _, Sl.nil _ _, on (on (on hb1 hbo) hb2) hb4⟩
          | exact ⟨_, _, _, _, _, _, rfl, hs4, hs3.below hb4, on (on (on hb1 hbo) hb2) hb4⟩
end Go.Proofs.YtmejoococajikaaGreat

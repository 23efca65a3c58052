/- varint.PutInt, TakeInt and their references. -/
import Derived.Test.YtpgkbcgjjmdfiaaVarRT
namespace Go.Proofs.Ytpgkbcgjjmdfiaa
open Go.RowKit

/-- A number as one without a sign. -/
def unsN (x : Int) (s : Bool) : Nat := if s then (zig x).toNat else (x % 18446744073709551616).toNat
theorem unsN_lt (x : Int) (s : Bool) (h : -9223372036854775808 ≤ x ∧ x < 9223372036854775808) : unsN x s < 18446744073709551616 := by
  unfold unsN
  have := zig_range x h.1 h.2
  split <;> omega
def takeI (b : List Int) (s : Bool) : Int × List Int × Int :=
  if (vtakeR b).2.2 ≠ 0 then (0, [], 2)
  else if s then (zag (vtakeR b).1, (vtakeR b).2.1, 0)
  else if 9223372036854775808 ≤ (vtakeR b).1 then (0, [], 2)
  else ((vtakeR b).1, (vtakeR b).2.1, 0)
def ITakeOut (w : World) (x : Int) (l : List Int) (er : Int) (e : Ending) (w' : World) : Prop :=
  ∃ G n c, e = .returned (.tuple #[.int .i64 x, .slice G n c, .int .i64 er]) ∧ Sl w' .u8 G n c l ∧ Below w.heap.size w w'
theorem takeI_put (x : Int) (s : Bool) (h : -9223372036854775808 ≤ x ∧ x < 9223372036854775808) (h0 : s = true ∨ 0 ≤ x) (q : List Int) : takeI (vput (unsN x s) ++ q) s = (x, q, 0) := by
  unfold takeI
  rw [vtake_put _ (unsN_lt x s h) q]
  have hz := zig_range x h.1 h.2
  cases s
  · have : 0 ≤ x := by rcases h0 with h0 | h0; cases h0; exact h0
    have e : unsN x false = x.toNat := by unfold unsN; rw [if_neg (by simp)]; omega
    rw [e, if_neg (by simp), if_neg (by simp), if_neg (by dsimp only; omega)]
    dsimp only
    rw [show (x.toNat : Int) = x from by omega]
  · have e : ((unsN x true : Nat) : Int) = zig x := by unfold unsN; rw [if_pos rfl]; omega
    rw [if_neg (by simp), if_pos rfl]
    dsimp only
    rw [e, zag_zig]
theorem takeI_range (b : List Int) (s : Bool) : -9223372036854775808 ≤ (takeI b s).1 ∧ (takeI b s).1 < 9223372036854775808 := by
  unfold takeI
  split
  · simp
  · split
    · refine zag_range _ (by omega) ?_
      unfold vtakeR
      split
      · simp
      · split
        · have := Nat.mod_lt (vval (b.take (lead 9 b + 1))) (show 18446744073709551616 > 0 by omega)
          dsimp only; omega
        · simp
    · split
      · simp
      · dsimp only; omega
theorem takeI_u8 (b : List Int) (s : Bool) (hu : U8 b) : U8 (takeI b s).2.1 ∧ ((takeI b s).2.2 = 0 ∨ (takeI b s).2.2 = 2) := by
  have hnil : U8 [] := fun y hy => by cases hy
  have h := vtake_u8 b hu
  unfold takeI
  split
  · exact And.intro hnil (Or.inr rfl)
  · split
    · exact And.intro h.2.1 (Or.inl rfl)
    · split
      · exact And.intro hnil (Or.inr rfl)
      · exact And.intro h.2.1 (Or.inl rfl)
theorem u64_of_int (x : Int) : IntKind.u64.wrap x = ((unsN x false : Nat) : Int) := by
  rw [IntKind.wrap_u64]; unfold unsN; rw [if_neg (by simp)]; omega

set_option maxRecDepth 100000 in
set_option maxHeartbeats 1000000 in
theorem PutInt_any (w : World) (A : Option Addr) (n cap : Nat) (b : List Int) (hr : Ri w .u8 A n b) (hn : n ≤ 100000) (x : Int) (hx : -9223372036854775808 ≤ x ∧ x < 9223372036854775808) (s : Bool) :
    Calls Try.prog 53 #[.slice A n cap, .int .i64 x, .bool s] w (BytesOut w (b ++ vput (unsN x s))) := by
  have HR := Lib.hid hr; clear hr
  have hlt := unsN_lt x s hx
  cases s
  · have he := u64_of_int x
    go_enter Try.func53, Try.ntmps53
    go_wp2_with fail
    refine (VPut_any _ _ _ _ b HR.out hn (unsN x false) hlt).mono ?_; rintro e w2 ⟨G2, n2, c2, rfl, hs2, hb2⟩
    go_wp2_with fail
    go_ret
    exact ⟨_, _, _, rfl, hs2, hb2⟩
  · have hz := zig_range x hx.1 hx.2
    have HE := Lib.hid (show zig x = ((unsN x true : Nat) : Int) from by unfold unsN; rw [if_pos rfl]; omega)
    go_enter Try.func53, Try.ntmps53
    go_wp2_with fail
    refine (Zig_any _ _ hx.1 hx.2).mono ?_; rintro e w' ⟨rfl, rfl⟩
    rw [HE.out]
    go_wp2_with fail
    refine (VPut_any _ _ _ _ b HR.out hn (unsN x true) hlt).mono ?_; rintro e w2 ⟨G2, n2, c2, rfl, hs2, hb2⟩
    go_wp2_with fail
    go_ret
    exact ⟨_, _, _, rfl, hs2, hb2⟩
set_option maxRecDepth 100000 in
set_option maxHeartbeats 1000000 in
theorem refPutInt_any (w : World) (A : Option Addr) (n cap : Nat) (b : List Int) (hr : Ri w .u8 A n b) (hn : n ≤ 100000) (x : Int) (hx : -9223372036854775808 ≤ x ∧ x < 9223372036854775808) (s : Bool) :
    Calls Try.prog 58 #[.slice A n cap, .int .i64 x, .bool s] w (OwnOut w (b ++ vput (unsN x s))) := by
  have HR := Lib.hid hr; clear hr
  have hlt := unsN_lt x s hx
  cases s
  · have he := u64_of_int x
    go_enter Try.func58, Try.ntmps58
    go_wp2_with fail
    refine (refVPut_any _ _ _ _ b HR.out hn (unsN x false) hlt).mono ?_; rintro e w2 ⟨G2, n2, c2, rfl, hs2, hb2⟩
    go_wp2_with fail
    go_ret
    exact ⟨_, _, _, rfl, hs2, hb2⟩
  · have hz := zig_range x hx.1 hx.2
    have HE := Lib.hid (show zig x = ((unsN x true : Nat) : Int) from by unfold unsN; rw [if_pos rfl]; omega)
    go_enter Try.func58, Try.ntmps58
    go_wp2_with fail
    refine (refZig_any _ _ hx.1 hx.2).mono ?_; rintro e w' ⟨rfl, rfl⟩
    rw [HE.out]
    go_wp2_with fail
    refine (refVPut_any _ _ _ _ b HR.out hn (unsN x true) hlt).mono ?_; rintro e w2 ⟨G2, n2, c2, rfl, hs2, hb2⟩
    go_wp2_with fail
    go_ret
    exact ⟨_, _, _, rfl, hs2, hb2⟩

set_option maxRecDepth 100000 in
set_option maxHeartbeats 1000000 in
theorem TakeInt_any (w : World) (A : Option Addr) (n cap : Nat) (b : List Int) (hr : Ri w .u8 A n b) (hu : U8 b) (hc : n ≤ cap) (hm : cap ≤ 9223372036854775807) (hn : n ≤ 100000) (s : Bool) (x : Int) (r : List Int) (er : Int) (hl : takeI b s = (x, r, er)) :
    Calls Try.prog 61 #[.slice A n cap, .bool s] w (ITakeOut w x r er) := by
  have HR := Lib.hid hr; have HU := Lib.hid hu
  obtain ⟨X, t, e0, hv⟩ : ∃ X t e0, vtakeR b = (X, t, e0) := ⟨_, _, _, rfl⟩
  have hv8 := vtake_u8 b hu
  unfold takeI at hl
  rw [hv] at hl hv8
  obtain ⟨hX, _, he0⟩ := hv8
  dsimp only at hl hX he0
  have HV := Lib.hid hv
  clear hr hu hv
  rcases he0 with rfl | rfl
  · rw [if_neg (by decide)] at hl
    cases s
    · rw [if_neg (by decide)] at hl
      by_cases h63 : 9223372036854775808 ≤ X
      · rw [if_pos h63] at hl
        injection hl with h1 hl; injection hl with h2 h3
        subst h1 h2 h3
        have hq : ¬ (X : Int) / 9223372036854775808 = 0 := by omega
        have hX2 : (9223372036854775808 : Int) ≤ (X : Int) := by omega
        clear h63
        go_enter Try.func61, Try.ntmps61
        go_wp2_with fail
        refine (VTake_any _ _ _ _ b HR.out HU.out hc hm hn X t 0 HV.out).mono ?_; rintro e w2 ⟨G2, n2, c2, rfl, hs2, hb2⟩
        go_wp2_with fail
        go_returns
        exact ⟨none, 0, 0, rfl, Sl.nil _ _, hb2⟩
      · rw [if_neg h63] at hl
        injection hl with h1 hl; injection hl with h2 h3
        subst h1 h2 h3
        have hq : (X : Int) / 9223372036854775808 = 0 := by omega
        have hX2 : (X : Int) < 9223372036854775808 := by omega
        clear h63
        go_enter Try.func61, Try.ntmps61
        go_wp2_with fail
        refine (VTake_any _ _ _ _ b HR.out HU.out hc hm hn X t 0 HV.out).mono ?_; rintro e w2 ⟨G2, n2, c2, rfl, hs2, hb2⟩
        go_wp2_with fail
        go_returns
        exact ⟨_, _, _, rfl, hs2, hb2⟩
    · rw [if_pos rfl] at hl
      injection hl with h1 hl; injection hl with h2 h3
      subst h1 h2 h3
      go_enter Try.func61, Try.ntmps61
      go_wp2_with fail
      refine (VTake_any _ _ _ _ b HR.out HU.out hc hm hn X t 0 HV.out).mono ?_; rintro e w2 ⟨G2, n2, c2, rfl, hs2, hb2⟩
      go_wp2_with fail
      refine (Zag_any _ _ (by omega) (by omega)).mono ?_; rintro e w3 ⟨rfl, rfl⟩
      go_wp2_with fail
      go_returns
      exact ⟨_, _, _, rfl, hs2, hb2⟩
  · rw [if_pos (by decide)] at hl
    injection hl with h1 hl; injection hl with h2 h3
    subst h1 h2 h3
    go_enter Try.func61, Try.ntmps61
    go_wp2_with fail
    refine (VTake_any _ _ _ _ b HR.out HU.out hc hm hn X t 2 HV.out).mono ?_; rintro e w2 ⟨G2, n2, c2, rfl, hs2, hb2⟩
    go_wp2_with fail
    go_returns
    exact ⟨none, 0, 0, rfl, Sl.nil _ _, hb2⟩

set_option maxRecDepth 100000 in
set_option maxHeartbeats 1000000 in
theorem refTakeInt_any (w : World) (A : Option Addr) (n cap : Nat) (b : List Int) (hr : Ri w .u8 A n b) (hu : U8 b) (hc : n ≤ cap) (hm : cap ≤ 9223372036854775807) (hn : n ≤ 100000) (s : Bool) (x : Int) (r : List Int) (er : Int) (hl : takeI b s = (x, r, er)) :
    Calls Try.prog 66 #[.slice A n cap, .bool s] w (ITakeOut w x r er) := by
  have HR := Lib.hid hr; have HU := Lib.hid hu
  obtain ⟨X, t, e0, hv⟩ : ∃ X t e0, vtakeR b = (X, t, e0) := ⟨_, _, _, rfl⟩
  have hv8 := vtake_u8 b hu
  unfold takeI at hl
  rw [hv] at hl hv8
  obtain ⟨hX, _, he0⟩ := hv8
  dsimp only at hl hX he0
  have HV := Lib.hid hv
  clear hr hu hv
  rcases he0 with rfl | rfl
  · rw [if_neg (by decide)] at hl
    cases s
    · rw [if_neg (by decide)] at hl
      by_cases h63 : 9223372036854775808 ≤ X
      · rw [if_pos h63] at hl
        injection hl with h1 hl; injection hl with h2 h3
        subst h1 h2 h3
        have hq : ¬ (X : Int) / 9223372036854775808 = 0 := by omega
        have hX2 : (9223372036854775808 : Int) ≤ (X : Int) := by omega
        clear h63
        go_enter Try.func66, Try.ntmps66
        go_wp2_with fail
        refine (refVTake_any _ _ _ _ b HR.out HU.out hc hm hn X t 0 HV.out).mono ?_; rintro e w2 ⟨G2, n2, c2, rfl, hs2, hb2⟩
        go_wp2_with fail
        go_returns
        exact ⟨none, 0, 0, rfl, Sl.nil _ _, hb2⟩
      · rw [if_neg h63] at hl
        injection hl with h1 hl; injection hl with h2 h3
        subst h1 h2 h3
        have hX3 : ¬ (9223372036854775808 : Int) ≤ (X : Int) := by omega
        have hdd : decide ((9223372036854775808 : Int) ≤ (X : Int)) = false := decide_eq_false hX3
        have hX2 : (X : Int) < 9223372036854775808 := by omega
        have hwx := Lib.hid (IntWalk.wrap64_in (X : Int) (by omega))
        clear h63 hX2 hX3
        go_enter Try.func66, Try.ntmps66
        go_wp2_with fail
        refine (refVTake_any _ _ _ _ b HR.out HU.out hc hm hn X t 0 HV.out).mono ?_; rintro e w2 ⟨G2, n2, c2, rfl, hs2, hb2⟩
        go_wp2_with fail
        go_returns
        refine ⟨G2, n2, c2, ?_, hs2, hb2⟩
        show Ending.returned (.tuple #[.int .i64 (wrap64 X), .slice G2 n2 c2, .int .i64 0]) = _
        rw [hwx.out]
    · rw [if_pos rfl] at hl
      injection hl with h1 hl; injection hl with h2 h3
      subst h1 h2 h3
      go_enter Try.func66, Try.ntmps66
      go_wp2_with fail
      refine (refVTake_any _ _ _ _ b HR.out HU.out hc hm hn X t 0 HV.out).mono ?_; rintro e w2 ⟨G2, n2, c2, rfl, hs2, hb2⟩
      go_wp2_with fail
      refine (refZag_any _ _ (by omega) (by omega)).mono ?_; rintro e w3 ⟨rfl, rfl⟩
      go_wp2_with fail
      go_returns
      exact ⟨_, _, _, rfl, hs2, hb2⟩
  · rw [if_pos (by decide)] at hl
    injection hl with h1 hl; injection hl with h2 h3
    subst h1 h2 h3
    go_enter Try.func66, Try.ntmps66
    go_wp2_with fail
    refine (refVTake_any _ _ _ _ b HR.out HU.out hc hm hn X t 2 HV.out).mono ?_; rintro e w2 ⟨G2, n2, c2, rfl, hs2, hb2⟩
    go_wp2_with fail
    go_returns
    exact ⟨none, 0, 0, rfl, Sl.nil _ _, hb2⟩
end Go.Proofs.Ytpgkbcgjjmdfiaa

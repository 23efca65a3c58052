/- Joined texts: VarRT, VarInt. Each has its own head line. No condition beyond those that its theorems state. -/
import Derived.Deep.RegionWith
import Derived.Test.YtmejoococajikaaGreatJ09
set_option linter.unusedVariables false

/- The reference of varint.Take. -/
namespace Go.Proofs.YtmejoococajikaaGreat
open Go.RowKit

theorem vval_cons_drop (l : List Int) (j : Nat) (h : j < l.length) : vval (l.drop j) = (l.getD j 0).toNat % 128 + 128 * vval (l.drop (j + 1)) := by
  rw [List.drop_eq_getElem_cons h]
  simp [vval, List.getD, List.getElem?_eq_getElem h]
theorem lead_at (b : List Int) (j : Nat) (h1 : ∀ i, i < j → 128 ≤ b.getD i 0) (h2 : b.length ≤ j ∨ 9 ≤ j ∨ b.getD j 0 < 128) (h3 : j ≤ b.length) (h4 : j ≤ 9) : lead 9 b = j := by
  have hle := lead_le 9 b
  have hlg := lead_ge 9 b
  have hls := lead_stop 9 b
  rcases Nat.lt_trichotomy (lead 9 b) j with h | h | h
  · have := hls (by omega) (by omega)
    have := h1 _ h
    omega
  · exact h
  · have := hlg j h
    omega

set_option maxRecDepth 100000 in
set_option maxHeartbeats 1000000 in
theorem refVTake_any (w : World) (A : Option Addr) (n cap : Nat) (b : List Int) (hr : Ri w .u8 A n b) (hu : U8 b) (hc : n ≤ cap) (_hm : cap ≤ 9223372036854775807) (hn : n ≤ 100000) (X : Nat) (r : List Int) (er : Int) (hl : vtakeR b = (X, r, er)) :
    Calls Tryz.prog 143 #[.slice A n cap] w (VTakeOut w X r er) := by
  have HR := Lib.hid hr; have HU := Lib.hid hu; have HN := Lib.hid hr.len
  have HL := Lib.hid hl
  clear hr hu hl
  go_enter Tryz.func143, Tryz.ntmps143
  go_wp2_with fail
  go_loopw [5] (fun i wr => ∃ j : Nat, j ≤ n ∧ j ≤ 9 ∧ i = .int .i64 j ∧ Hid (wr = w) ∧ Hid (∀ q, q < j → 128 ≤ b.getD q 0)) (fun i _ => 10 - (intOf i).toNat)
  case atStart => exact ⟨0, by omega, by omega, rfl, Lib.hid rfl, Lib.hid (fun q h => absurd h (by omega))⟩
  case round =>
    obtain ⟨j, hjn, hj9, rfl, hw, hge⟩ := hrel
    obtain rfl := hw.out
    by_cases hgo : j < n ∧ j < 9 ∧ 128 ≤ b.getD j 0
    · obtain ⟨hlt1, hlt2, h128⟩ := hgo
      obtain ⟨bb, oo, hA, hbl, hcell⟩ := HR.out.at_ hlt1
      subst hA
      have hy := getD_byte HU.out j
      have hge2 : Hid (∀ q, q < j + 1 → 128 ≤ b.getD q 0) := by
        intro q hq
        rcases Nat.lt_or_ge q j with h | h
        · exact hge.out q h
        · rw [show q = j from by omega]; exact h128
      generalize b.getD j 0 = y at hcell hy h128
      go_wp2_with fail
      go_roundw
      case rel => exact ⟨j + 1, by omega, by omega, by go_num, Lib.hid trivial, hge2⟩
      case measure => simp [intOf] <;> omega
    · have hlead := lead_at b j hge.out (by rw [HN.out]; omega) (by rw [HN.out]; exact hjn) hj9
      have hbad := vtake_bad b HU.out
      have hok := vtake_ok b HU.out
      rw [hlead] at hbad hok
      rcases Nat.lt_or_ge j n with hjn2 | hjn2
      · obtain ⟨bb, oo, hA, hbl, hcell⟩ := HR.out.at_ hjn2
        subst hA
        have hy := getD_byte HU.out j
        have hF := Lib.hid (HR.out.first (m := j + 1) (by omega))
        have hcond : 9 ≤ j ∨ b.getD j 0 < 128 := by omega
        have hdef := HL.out
        unfold vtakeR at hdef
        rw [hlead, if_neg (by rw [HN.out]; omega)] at hdef
        have hFU := Lib.hid (HU.out.take (j + 1))
        have hFl : Hid ((b.take (j + 1)).length = j + 1) := Lib.hid (by rw [List.length_take, HN.out]; omega)
        have hFg : Hid (∀ s, s < j + 1 → (b.take (j + 1)).getD s 0 = b.getD s 0) := Lib.hid (fun s hs => by simp [List.getD, List.getElem?_take_of_lt hs])
        have HDEF := Lib.hid hdef
        generalize b.take (j + 1) = F at HDEF hF hFU hFl hFg
        clear hbad hok hlead hdef hgo
        generalize b.getD j 0 = y at hcell hy hcond
        have hstop : Hid True := Lib.hid trivial
        have hkey : ∀ K : Prop, (9 ≤ j → K) → (¬ 9 ≤ j → y < 128 → K) → K := fun K h1 h2 => by
          by_cases h : 9 ≤ j
          · exact h1 h
          · exact h2 h (by omega)
        clear hcond
        refine hkey _ (fun h => ?_) (fun h h' => ?_)
        all_goals
          clear hkey
          go_wp2_with fail
          go_loopw [6, 7] (fun x i wi => ∃ t : Nat, t ≤ j + 1 ∧ i = .int .i64 ((t : Int) - 1) ∧ Hid (wi = wr) ∧ x = .int .u64 ((vval (F.drop t) % 18446744073709551616 : Nat) : Int)) (fun _ i _ => (intOf i + 1).toNat)
          case atStart => exact ⟨j + 1, by omega, by go_num, Lib.hid rfl, by rw [List.drop_eq_nil_of_le (by rw [hFl.out]; omega)]; rfl⟩
          case round =>
            obtain ⟨t, ht, rfl, hwi, rfl⟩ := hrel
            obtain rfl := hwi.out
            cases t with
            | succ s =>
              obtain ⟨bb', oo', hA', hbl', hcell'⟩ := hF.out.at_ (j := s) (by omega)
              have hst := vval_cons_drop F s (by rw [hFl.out]; omega)
              have hy' := getD_byte hFU.out s
              injection hA' with hA'; injection hA' with ea eb
              subst ea eb
              have hV := Nat.mod_lt (vval (F.drop (s + 1))) (show 18446744073709551616 > 0 by omega)
              have HST := Lib.hid (show vval (F.drop s) % 18446744073709551616 = (128 * (vval (F.drop (s + 1)) % 18446744073709551616) + (F.getD s 0).toNat % 128) % 18446744073709551616 from by omega)
              clear hst hcell
              generalize vval (F.drop (s + 1)) % 18446744073709551616 = V at *
              generalize F.getD s 0 = z at *
              go_wp2_with fail
              go_roundw
              case rel =>
                refine ⟨s, by omega, by go_num, Lib.hid trivial, ?_⟩
                rw [HST.out]
                refine congrArg _ ?_
                first | omega | (rw [IntKind.wrap_u64]; omega) | (rw [IntKind.wrap_u64, IntKind.wrap_u64]; omega)
              case measure => simp [intOf] <;> omega
            | zero =>
              rw [List.drop_zero]
              have hZ := Nat.mod_lt (vval F) (show 18446744073709551616 > 0 by omega)
              have HR1 := Lib.hid (HR.out.rest (i := j + 1) (b := bb) (o := oo) (by omega) (fun _ => rfl))
              generalize vval F % 18446744073709551616 = Z at *
              have cvF := conv_any (w := wr.drew) (c := cap) hF.out
              have hjc1 : (0 : Int) ≤ (j : Int) + 1 := by omega
              have hsum := IntWalk.wrap64_in ((j : Int) + 1) (by omega)
              have hsum2 : IntKind.i64.wrap ((j : Int) + 1) = (j : Int) + 1 := by rw [IntKind.wrap_i64]; omega
              have hnat : ((j : Int) + 1).toNat = j + 1 := by omega
              have hjc2 : (j : Int) + 1 ≤ (cap : Int) := by omega
              have HVU := Lib.hid (vput_u8 9 Z hZ)
              have hsb := strOf_beq (vput Z) F HVU.out hFU.out
              obtain ⟨tt, htt⟩ : ∃ tt, tt = decide (vput Z = F) := ⟨_, rfl⟩
              rw [← htt] at hsb
              have HT := Lib.hid htt
              clear htt
              have HC := Lib.hid hcell
              clear hcell
              go_wp2_with fail
              go_region_with (
                (go_at_call 132; refine (refVPut_any _ _ 0 0 [] (Ri.nil _ _ _) (by omega) Z hZ).mono ?_; rintro e w2 ⟨G2, n2, c2, rfl, ho2, hb2⟩; have cv2 := conv_any (c := c2) (Ri.of_own ho2.out); have cvF2 := conv_any (c := cap) (Ri.below hF.out.drew hb2); have HB2 := Lib.hid hb2; clear hb2; rw [List.nil_append] at cv2))
              all_goals
                have HB2' := Lib.hid (on ((Below.refl wr.heap.size wr).drew) HB2.out)
                have hdef := HDEF.out
                clear cvF cvF2 cv2 HDEF
                cases tt
                · have hV : ¬ vput Z = F := of_decide_eq_false HT.out.symm
                  rw [if_neg hV] at hdef
                  injection hdef with h1 hdef; injection hdef with h2 h3
                  subst h1 h2 h3
                  clear hsb hV
                  go_wp2_with fail
                  go_returns
                  exact ⟨none, 0, 0, rfl, Sl.nil _ _, HB2'.out⟩
                · have hV : vput Z = F := of_decide_eq_true HT.out.symm
                  rw [if_pos hV] at hdef
                  injection hdef with h1 hdef; injection hdef with h2 h3
                  subst h1 h2 h3
                  clear hsb hV
                  have HRB := Lib.hid ((HR.out.below HB2'.out).restIf (i := j + 1) (by omega) hc)
                  go_wp2_with (at_builtin; refine wpList_u8 _ rfl _ _ rfl w2.heap.size _ 0 [] rfl (own_empty w2 _ 1) _ (n - (j + 1)) _ (b.drop (j + 1)) rfl (HRB.out.alloc _) (by omega) (by simp) ?_; intro G3 c3 w3 hown hgr hcc)
                  all_goals
                    have hb3 := push0 ((Below.refl w2.heap.size w2).alloc (Nat.le_refl _) _) (Nat.le_refl _) (own_empty w2 _ 1) hgr
                    rw [Nat.zero_add, List.nil_append] at hown
                    have HS3 := Lib.hid (Sl.of_own hown)
                    clear hown hgr hcc
                    go_wp2_with fail
                    go_returns
                    exact ⟨_, _, _, rfl, HS3.out, on HB2'.out hb3⟩
      · have h := hbad (.inl (by rw [HN.out]; exact hjn2))
        rw [HL.out] at h
        injection h with h1 h; injection h with h2 h3
        subst h1 h2 h3
        clear hbad hok hlead hgo
        obtain rfl : j = n := by omega
        go_wp2_with fail
        go_returns
        exact VTakeOut.bad
end Go.Proofs.YtmejoococajikaaGreat

/- varint.PutInt, TakeInt and their references. -/
namespace Go.Proofs.YtmejoococajikaaGreat
open Go.RowKit

/-- A number as one without a sign. -/
def unsN (x : Int) (s : Bool) : Nat := if s then (zig x).toNat else (x % 18446744073709551616).toNat
theorem unsN_lt (x : Int) (s : Bool) (h : -9223372036854775808 ≤ x ∧ x < 9223372036854775808) : unsN x s < 18446744073709551616 := by
  unfold unsN
  have := zig_range x h.1 h.2
  split <;> omega
def takeI (b : List Int) (s : Bool) : Int × List Int × Int :=
  if (vtakeR b).2.2 ≠ 0 then (0, [], 2)
  else if s then (zag (vtakeR b).1, (vtakeR b).2.1, 0)
  else if 9223372036854775808 ≤ (vtakeR b).1 then (0, [], 2)
  else ((vtakeR b).1, (vtakeR b).2.1, 0)
def ITakeOut (w : World) (x : Int) (l : List Int) (er : Int) (e : Ending) (w' : World) : Prop :=
  ∃ G n c, e = .returned (.tuple #[.int .i64 x, .slice G n c, .int .i64 er]) ∧ Sl w' .u8 G n c l ∧ Below w.heap.size w w'
theorem takeI_put (x : Int) (s : Bool) (h : -9223372036854775808 ≤ x ∧ x < 9223372036854775808) (h0 : s = true ∨ 0 ≤ x) (q : List Int) : takeI (vput (unsN x s) ++ q) s = (x, q, 0) := by
  unfold takeI
  rw [vtake_put _ (unsN_lt x s h) q]
  have hz := zig_range x h.1 h.2
  cases s
  · have : 0 ≤ x := by rcases h0 with h0 | h0; cases h0; exact h0
    have e : unsN x false = x.toNat := by unfold unsN; rw [if_neg (by simp)]; omega
    rw [e, if_neg (by simp), if_neg (by simp), if_neg (by dsimp only; omega)]
    dsimp only
    rw [show (x.toNat : Int) = x from by omega]
  · have e : ((unsN x true : Nat) : Int) = zig x := by unfold unsN; rw [if_pos rfl]; omega
    rw [if_neg (by simp), if_pos rfl]
    dsimp only
    rw [e, zag_zig]
theorem takeI_range (b : List Int) (s : Bool) : -9223372036854775808 ≤ (takeI b s).1 ∧ (takeI b s).1 < 9223372036854775808 := by
  unfold takeI
  split
  · simp
  · split
    · refine zag_range _ (by omega) ?_
      unfold vtakeR
      split
      · simp
      · split
        · have := Nat.mod_lt (vval (b.take (lead 9 b + 1))) (show 18446744073709551616 > 0 by omega)
          dsimp only; omega
        · simp
    · split
      · simp
      · dsimp only; omega
theorem takeI_u8 (b : List Int) (s : Bool) (hu : U8 b) : U8 (takeI b s).2.1 ∧ ((takeI b s).2.2 = 0 ∨ (takeI b s).2.2 = 2) := by
  have hnil : U8 [] := fun y hy => by cases hy
  have h := vtake_u8 b hu
  unfold takeI
  split
  · exact And.intro hnil (Or.inr rfl)
  · split
    · exact And.intro h.2.1 (Or.inl rfl)
    · split
      · exact And.intro hnil (Or.inr rfl)
      · exact And.intro h.2.1 (Or.inl rfl)
theorem u64_of_int (x : Int) : IntKind.u64.wrap x = ((unsN x false : Nat) : Int) := by
  rw [IntKind.wrap_u64]; unfold unsN; rw [if_neg (by simp)]; omega

set_option maxRecDepth 100000 in
set_option maxHeartbeats 1000000 in
theorem PutInt_any (w : World) (A : Option Addr) (n cap : Nat) (b : List Int) (hr : Ri w .u8 A n b) (hn : n ≤ 100000) (x : Int) (hx : -9223372036854775808 ≤ x ∧ x < 9223372036854775808) (s : Bool) :
    Calls Tryz.prog 125 #[.slice A n cap, .int .i64 x, .bool s] w (BytesOut w (b ++ vput (unsN x s))) := by
  have HR := Lib.hid hr; clear hr
  have hlt := unsN_lt x s hx
  cases s
  · have he := u64_of_int x
    go_enter Tryz.func125, Tryz.ntmps125
    go_wp2_with fail
    refine (VPut_any _ _ _ _ b HR.out hn (unsN x false) hlt).mono ?_; rintro e w2 ⟨G2, n2, c2, rfl, hs2, hb2⟩
    go_wp2_with fail
    go_ret
    exact ⟨_, _, _, rfl, hs2, hb2⟩
  · have hz := zig_range x hx.1 hx.2
    have HE := Lib.hid (show zig x = ((unsN x true : Nat) : Int) from by unfold unsN; rw [if_pos rfl]; omega)
    go_enter Tryz.func125, Tryz.ntmps125
    go_wp2_with fail
    refine (Zig_any _ _ hx.1 hx.2).mono ?_; rintro e w' ⟨rfl, rfl⟩
    rw [HE.out]
    go_wp2_with fail
    refine (VPut_any _ _ _ _ b HR.out hn (unsN x true) hlt).mono ?_; rintro e w2 ⟨G2, n2, c2, rfl, hs2, hb2⟩
    go_wp2_with fail
    go_ret
    exact ⟨_, _, _, rfl, hs2, hb2⟩
set_option maxRecDepth 100000 in
set_option maxHeartbeats 1000000 in
theorem refPutInt_any (w : World) (A : Option Addr) (n cap : Nat) (b : List Int) (hr : Ri w .u8 A n b) (hn : n ≤ 100000) (x : Int) (hx : -9223372036854775808 ≤ x ∧ x < 9223372036854775808) (s : Bool) :
    Calls Tryz.prog 93 #[.slice A n cap, .int .i64 x, .bool s] w (OwnOut w (b ++ vput (unsN x s))) := by
  have HR := Lib.hid hr; clear hr
  have hlt := unsN_lt x s hx
  cases s
  · have he := u64_of_int x
    go_enter Tryz.func93, Tryz.ntmps93
    go_wp2_with fail
    refine (refVPut_any _ _ _ _ b HR.out hn (unsN x false) hlt).mono ?_; rintro e w2 ⟨G2, n2, c2, rfl, hs2, hb2⟩
    go_wp2_with fail
    go_ret
    exact ⟨_, _, _, rfl, hs2, hb2⟩
  · have hz := zig_range x hx.1 hx.2
    have HE := Lib.hid (show zig x = ((unsN x true : Nat) : Int) from by unfold unsN; rw [if_pos rfl]; omega)
    go_enter Tryz.func93, Tryz.ntmps93
    go_wp2_with fail
    refine (refZig_any _ _ hx.1 hx.2).mono ?_; rintro e w' ⟨rfl, rfl⟩
    rw [HE.out]
    go_wp2_with fail
    refine (refVPut_any _ _ _ _ b HR.out hn (unsN x true) hlt).mono ?_; rintro e w2 ⟨G2, n2, c2, rfl, hs2, hb2⟩
    go_wp2_with fail
    go_ret
    exact ⟨_, _, _, rfl, hs2, hb2⟩

set_option maxRecDepth 100000 in
set_option maxHeartbeats 1000000 in
theorem TakeInt_any (w : World) (A : Option Addr) (n cap : Nat) (b : List Int) (hr : Ri w .u8 A n b) (hu : U8 b) (hc : n ≤ cap) (hm : cap ≤ 9223372036854775807) (hn : n ≤ 100000) (s : Bool) (x : Int) (r : List Int) (er : Int) (hl : takeI b s = (x, r, er)) :
    Calls Tryz.prog 167 #[.slice A n cap, .bool s] w (ITakeOut w x r er) := by
  have HR := Lib.hid hr; have HU := Lib.hid hu
  obtain ⟨X, t, e0, hv⟩ : ∃ X t e0, vtakeR b = (X, t, e0) := ⟨_, _, _, rfl⟩
  have hv8 := vtake_u8 b hu
  unfold takeI at hl
  rw [hv] at hl hv8
  obtain ⟨hX, _, he0⟩ := hv8
  dsimp only at hl hX he0
  have HV := Lib.hid hv
  clear hr hu hv
  rcases he0 with rfl | rfl
  · rw [if_neg (by decide)] at hl
    cases s
    · rw [if_neg (by decide)] at hl
      by_cases h63 : 9223372036854775808 ≤ X
      · rw [if_pos h63] at hl
        injection hl with h1 hl; injection hl with h2 h3
        subst h1 h2 h3
        have hq : ¬ (X : Int) / 9223372036854775808 = 0 := by omega
        have hX2 : (9223372036854775808 : Int) ≤ (X : Int) := by omega
        clear h63
        go_enter Tryz.func167, Tryz.ntmps167
        go_wp2_with fail
        refine (VTake_any _ _ _ _ b HR.out HU.out hc hm hn X t 0 HV.out).mono ?_; rintro e w2 ⟨G2, n2, c2, rfl, hs2, hb2⟩
        go_wp2_with fail
        go_returns
        exact ⟨none, 0, 0, rfl, Sl.nil _ _, hb2⟩
      · rw [if_neg h63] at hl
        injection hl with h1 hl; injection hl with h2 h3
        subst h1 h2 h3
        have hq : (X : Int) / 9223372036854775808 = 0 := by omega
        have hX2 : (X : Int) < 9223372036854775808 := by omega
        clear h63
        go_enter Tryz.func167, Tryz.ntmps167
        go_wp2_with fail
        refine (VTake_any _ _ _ _ b HR.out HU.out hc hm hn X t 0 HV.out).mono ?_; rintro e w2 ⟨G2, n2, c2, rfl, hs2, hb2⟩
        go_wp2_with fail
        go_returns
        exact ⟨_, _, _, rfl, hs2, hb2⟩
    · rw [if_pos rfl] at hl
      injection hl with h1 hl; injection hl with h2 h3
      subst h1 h2 h3
      go_enter Tryz.func167, Tryz.ntmps167
      go_wp2_with fail
      refine (VTake_any _ _ _ _ b HR.out HU.out hc hm hn X t 0 HV.out).mono ?_; rintro e w2 ⟨G2, n2, c2, rfl, hs2, hb2⟩
      go_wp2_with fail
      refine (Zag_any _ _ (by omega) (by omega)).mono ?_; rintro e w3 ⟨rfl, rfl⟩
      go_wp2_with fail
      go_returns
      exact ⟨_, _, _, rfl, hs2, hb2⟩
  · rw [if_pos (by decide)] at hl
    injection hl with h1 hl; injection hl with h2 h3
    subst h1 h2 h3
    go_enter Tryz.func167, Tryz.ntmps167
    go_wp2_with fail
    refine (VTake_any _ _ _ _ b HR.out HU.out hc hm hn X t 2 HV.out).mono ?_; rintro e w2 ⟨G2, n2, c2, rfl, hs2, hb2⟩
    go_wp2_with fail
    go_returns
    exact ⟨none, 0, 0, rfl, Sl.nil _ _, hb2⟩

set_option maxRecDepth 100000 in
set_option maxHeartbeats 1000000 in
theorem refTakeInt_any (w : World) (A : Option Addr) (n cap : Nat) (b : List Int) (hr : Ri w .u8 A n b) (hu : U8 b) (hc : n ≤ cap) (hm : cap ≤ 9223372036854775807) (hn : n ≤ 100000) (s : Bool) (x : Int) (r : List Int) (er : Int) (hl : takeI b s = (x, r, er)) :
    Calls Tryz.prog 114 #[.slice A n cap, .bool s] w (ITakeOut w x r er) := by
  have HR := Lib.hid hr; have HU := Lib.hid hu
  obtain ⟨X, t, e0, hv⟩ : ∃ X t e0, vtakeR b = (X, t, e0) := ⟨_, _, _, rfl⟩
  have hv8 := vtake_u8 b hu
  unfold takeI at hl
  rw [hv] at hl hv8
  obtain ⟨hX, _, he0⟩ := hv8
  dsimp only at hl hX he0
  have HV := Lib.hid hv
  clear hr hu hv
  rcases he0 with rfl | rfl
  · rw [if_neg (by decide)] at hl
    cases s
    · rw [if_neg (by decide)] at hl
      by_cases h63 : 9223372036854775808 ≤ X
      · rw [if_pos h63] at hl
        injection hl with h1 hl; injection hl with h2 h3
        subst h1 h2 h3
        have hq : ¬ (X : Int) / 9223372036854775808 = 0 := by omega
        have hX2 : (9223372036854775808 : Int) ≤ (X : Int) := by omega
        clear h63
        go_enter Tryz.func114, Tryz.ntmps114
        go_wp2_with fail
        refine (refVTake_any _ _ _ _ b HR.out HU.out hc hm hn X t 0 HV.out).mono ?_; rintro e w2 ⟨G2, n2, c2, rfl, hs2, hb2⟩
        go_wp2_with fail
        go_returns
        exact ⟨none, 0, 0, rfl, Sl.nil _ _, hb2⟩
      · rw [if_neg h63] at hl
        injection hl with h1 hl; injection hl with h2 h3
        subst h1 h2 h3
        have hX3 : ¬ (9223372036854775808 : Int) ≤ (X : Int) := by omega
        have hdd : decide ((9223372036854775808 : Int) ≤ (X : Int)) = false := decide_eq_false hX3
        have hX2 : (X : Int) < 9223372036854775808 := by omega
        have hwx := Lib.hid (IntWalk.wrap64_in (X : Int) (by omega))
        clear h63 hX2 hX3
        go_enter Tryz.func114, Tryz.ntmps114
        go_wp2_with fail
        refine (refVTake_any _ _ _ _ b HR.out HU.out hc hm hn X t 0 HV.out).mono ?_; rintro e w2 ⟨G2, n2, c2, rfl, hs2, hb2⟩
        go_wp2_with fail
        go_returns
        refine ⟨G2, n2, c2, ?_, hs2, hb2⟩
        show Ending.returned (.tuple #[.int .i64 (wrap64 X), .slice G2 n2 c2, .int .i64 0]) = _
        rw [hwx.out]
    · rw [if_pos rfl] at hl
      injection hl with h1 hl; injection hl with h2 h3
      subst h1 h2 h3
      go_enter Tryz.func114, Tryz.ntmps114
      go_wp2_with fail
      refine (refVTake_any _ _ _ _ b HR.out HU.out hc hm hn X t 0 HV.out).mono ?_; rintro e w2 ⟨G2, n2, c2, rfl, hs2, hb2⟩
      go_wp2_with fail
      refine (refZag_any _ _ (by omega) (by omega)).mono ?_; rintro e w3 ⟨rfl, rfl⟩
      go_wp2_with fail
      go_returns
      exact ⟨_, _, _, rfl, hs2, hb2⟩
  · rw [if_pos (by decide)] at hl
    injection hl with h1 hl; injection hl with h2 h3
    subst h1 h2 h3
    go_enter Tryz.func114, Tryz.ntmps114
    go_wp2_with fail
    refine (refVTake_any _ _ _ _ b HR.out HU.out hc hm hn X t 2 HV.out).mono ?_; rintro e w2 ⟨G2, n2, c2, rfl, hs2, hb2⟩
    go_wp2_with fail
    go_returns
    exact ⟨none, 0, 0, rfl, Sl.nil _ _, hb2⟩
end Go.Proofs.YtmejoococajikaaGreat

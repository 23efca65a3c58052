/- Joined texts: VarTake, VarRT, VarInt. Each has its own head line. No condition beyond those that its theorems state. -/
import Derived.Deep.RegionWith
import Derived.Test.YtbmooemlekckbaaDoorJ12
set_option linter.unusedVariables false

/- varint.Take and its reference. -/
namespace Go.Proofs.YtbmooemlekckbaaDoor
open Go.RowKit

def VTakeOut (w : World) (x : Nat) (l : List Int) (er : Int) (e : Ending) (w' : World) : Prop :=
  ∃ G n c, e = .returned (.tuple #[.int .u64 x, .slice G n c, .int .i64 er]) ∧ Sl w' .u8 G n c l ∧ Below w.heap.size w w'
theorem vval_snoc (b : List Int) (j : Nat) (h : j < b.length) : vval (b.take (j + 1)) = vval (b.take j) + 128 ^ j * ((b.getD j 0).toNat % 128) := by
  rw [take_snoc b j h, vval_append, List.length_take, Nat.min_eq_left (by omega)]
  simp [vval]
theorem andNot_128 : ∀ c : Nat, c < 256 → bits .andNot .u8 (c : Int) 128 = ((c % 128 : Nat) : Int) := by decide +kernel
theorem and_128 : ∀ c : Nat, c < 256 → (bits .and .u8 (c : Int) 128 != 0) = decide (128 ≤ c) := by decide +kernel
theorem pow7 (j : Nat) : 2 ^ (7 * j) = 128 ^ j := by rw [Nat.pow_mul]
/-- One byte more. -/
theorem vor_step (b : List Int) (j : Nat) (hj : j < b.length) (h9 : j < 9 ∨ j = 9 ∧ b.getD j 0 ≤ 1) :
    bits .or .u64 (vval (b.take j) : Int) (IntKind.u64.wrap ((((b.getD j 0).toNat % 128 : Nat) : Int) * 2 ^ (7 * j))) = (vval (b.take (j + 1)) : Int) ∧ vval (b.take (j + 1)) < 18446744073709551616 := by
  have h1 := vval_lt (b.take j)
  rw [List.length_take, Nat.min_eq_left (by omega)] at h1
  rw [vval_snoc b j hj]
  generalize vval (b.take j) = V at *
  generalize hc : (b.getD j 0).toNat % 128 = c at *
  have h7 : (128 : Nat) ^ 9 = 9223372036854775808 := by decide
  have hlt : 128 ^ j * c + V < 18446744073709551616 := by
    rcases h9 with h9 | ⟨rfl, h9⟩
    · have h5 : 128 ^ (j + 1) ≤ 128 ^ 9 := Nat.pow_le_pow_right (by omega) (by omega)
      have h6 : 128 ^ j * c ≤ 128 ^ j * 127 := Nat.mul_le_mul_left _ (by omega)
      rw [Nat.pow_succ] at h5
      omega
    · rw [h7] at h1 ⊢
      have : c ≤ 1 := by omega
      omega
  have e1 : ((c : Int) * 2 ^ (7 * j)) = ((c * 2 ^ (7 * j) : Nat) : Int) := by rw [Int.natCast_mul, Int.natCast_pow]; rfl
  rw [← pow7] at h1 hlt ⊢
  have hlt2 : c * 2 ^ (7 * j) + V < 18446744073709551616 := by rw [Nat.mul_comm]; exact hlt
  rw [e1, IntWalk.u64_in _ (by omega), u64_or_nat _ _ (by omega) (by omega)]
  constructor
  · rw [Nat.or_comm, Nat.mul_comm c, ← Nat.two_pow_add_eq_or_of_lt h1 c, Nat.add_comm]
  · omega

theorem vtake_bad (b : List Int) (hu : U8 b) (h : b.length ≤ lead 9 b ∨ 128 ≤ b.getD (lead 9 b) 0 ∨ (b.getD (lead 9 b) 0 = 0 ∧ 0 < lead 9 b) ∨ (lead 9 b = 9 ∧ 1 < b.getD (lead 9 b) 0)) : vtakeR b = (0, [], 2) := by
  unfold vtakeR
  by_cases h1 : b.length ≤ lead 9 b
  · rw [if_pos h1]
  · rw [if_neg h1, if_neg]
    rw [vtake_good b hu (by omega)]
    omega
theorem vtake_ok (b : List Int) (hu : U8 b) (h1 : lead 9 b < b.length) (h2 : b.getD (lead 9 b) 0 < 128) (h3 : ¬ (b.getD (lead 9 b) 0 = 0 ∧ 0 < lead 9 b)) (h4 : ¬ (lead 9 b = 9 ∧ 1 < b.getD (lead 9 b) 0)) :
    vtakeR b = (vval (b.take (lead 9 b + 1)), b.drop (lead 9 b + 1), 0) := by
  have h5 := (vtake_good b hu h1).2 ⟨h2, h3, h4⟩
  have h6 := (vor_step b (lead 9 b) h1 (by have := (lead_le 9 b).1; omega)).2
  unfold vtakeR
  rw [if_neg (by omega), if_pos h5, Nat.mod_eq_of_lt h6]
theorem VTakeOut.bad {w : World} : VTakeOut w 0 [] 2 (.returned (.tuple #[.int .u64 0, .slice none 0 0, .int .i64 2])) w := ⟨none, 0, 0, rfl, Sl.nil _ _, Below.refl _ _⟩

set_option maxRecDepth 100000 in
set_option maxHeartbeats 1000000 in
theorem VTake_any (w : World) (A : Option Addr) (n cap : Nat) (b : List Int) (hr : Ri w .u8 A n b) (hu : U8 b) (hc : n ≤ cap) (hm : cap ≤ 9223372036854775807) (hn : n ≤ 100000) (X : Nat) (r : List Int) (er : Int) (hl : vtakeR b = (X, r, er)) :
    Calls Tryd.prog 99 #[.slice A n cap] w (VTakeOut w X r er) := by
  have HR := Lib.hid hr; have HU := Lib.hid hu; have HN := Lib.hid hr.len
  have hle := lead_le 9 b
  have hlg := Lib.hid (lead_ge 9 b)
  have hls := Lib.hid (lead_stop 9 b)
  have hbad := Lib.hid (vtake_bad b hu)
  have hok := Lib.hid (vtake_ok b hu)
  have HL := Lib.hid hl
  generalize lead 9 b = L at hle hlg hls hbad hok
  obtain ⟨hle1, hle2⟩ := hle
  rw [HN.out] at hle2
  clear hr hu hl
  go_enter Tryd.func99, Tryd.ntmps99
  go_wp2_with fail
  all_goals
    go_loopw [5, 11] (fun a i wr => ∃ j : Nat, j ≤ n ∧ j ≤ 10 ∧ i = .int .i64 j ∧ Hid (wr = w) ∧ Hid (j ≤ L ∧ a = .int .u64 (vval (b.take j)) ∨ (j = 10 ∧ L = 9 ∧ 128 ≤ b.getD 9 0 ∧ ∃ z, a = .int .u64 z))) (fun _ i _ => 10 - (intOf i).toNat)
    case atStart => exact ⟨0, by omega, by omega, rfl, Lib.hid rfl, Lib.hid (.inl ⟨by omega, rfl⟩)⟩
    case round =>
      obtain ⟨j, hjn, hj10, rfl, hw, hin⟩ := hrel
      obtain rfl := hw.out
      by_cases hlt : j < n ∧ j < 10
      · obtain ⟨hlt1, hlt2⟩ := hlt
        obtain ⟨bb, oo, hA, hbl, hcell⟩ := HR.out.at_ hlt1
        subst hA
        have hj : j ≤ L ∧ u5 = .int .u64 (vval (b.take j)) := by
          rcases hin.out with h | h
          · exact h
          · omega
        obtain ⟨hjL, rfl⟩ := hj
        have hy := getD_byte HU.out j
        obtain ⟨y, hyy⟩ : ∃ y : Nat, (y : Int) = b.getD j 0 := ⟨(b.getD j 0).toNat, by omega⟩
        have hstep := vor_step b j (by rw [HN.out]; exact hlt1)
        rw [← hyy] at hcell hy hstep
        have hyn : y < 256 := by omega
        have hm := Nat.mod_lt y (show 128 > 0 by omega)
        have e1 := andNot_128 y hyn
        have e2 := and_128 y hyn
        rw [Int.toNat_natCast, show (((y % 128 : Nat)) : Int) = (y : Int) % 128 from by omega] at hstep
        have hj7 : (0 : Int) ≤ 7 * (j : Int) := by omega
        have HYY := Lib.hid hyy; have HSTEP := Lib.hid hstep
        have HR1 := Lib.hid (HR.out.rest (i := j + 1) (b := bb) (o := oo) (by omega) (fun _ => rfl))
        clear hyy hstep hin
        generalize vval (b.take j) = V at *
        by_cases h128 : 128 ≤ y
        · by_cases h9 : j < 9
          · obtain ⟨hx, hx2⟩ := HSTEP.out (.inl h9)
            have hjL' : j < L := by
              rcases Nat.lt_or_ge j L with h | h
              · exact h
              · obtain rfl : j = L := by omega
                have := hls.out h9 (by rw [HN.out]; exact hlt1)
                rw [← HYY.out] at this
                omega
            go_wp2_with fail
            go_roundw
            case rel => exact ⟨j + 1, by omega, by omega, by go_num, Lib.hid trivial, Lib.hid (.inl ⟨by omega, rfl⟩)⟩
            case measure => simp [intOf] <;> omega
          · obtain rfl : j = 9 := by omega
            have h1 := HYY.out
            have HB9 : Hid (128 ≤ b.getD 9 0) := by show 128 ≤ b.getD 9 0; omega
            clear h1 HYY HSTEP HR1
            go_wp2_with fail
            go_roundw
            case rel => exact ⟨10, by omega, by omega, by go_num, Lib.hid trivial, Lib.hid (.inr ⟨rfl, by omega, HB9.out, _, rfl⟩)⟩
            case measure => simp [intOf] <;> omega
        · have hjL' : j = L := by
            rcases Nat.lt_or_ge j L with h | h
            · have := hlg.out j h
              rw [← HYY.out] at this
              omega
            · omega
          subst hjL'
          have HOK := Lib.hid (hok.out (by rw [HN.out]; exact hlt1))
          rw [← HYY.out] at HOK hbad
          rw [HL.out] at HOK hbad
          clear hok HYY hlg hls
          by_cases hb1 : y = 0 ∧ 0 < j
          · obtain ⟨rfl, hj0⟩ := hb1
            have h := hbad.out (.inr (.inr (.inl ⟨rfl, hj0⟩)))
            injection h with h1 h; injection h with h2 h3
            subst h1 h2 h3
            clear h
            go_wp2_with fail
            go_returns
            exact VTakeOut.bad
          · by_cases hb2 : j = 9 ∧ 1 < y
            · obtain ⟨rfl, hj0⟩ := hb2
              have h := hbad.out (.inr (.inr (.inr ⟨rfl, by omega⟩)))
              injection h with h1 h; injection h with h2 h3
              subst h1 h2 h3
              clear h
              have hy0 : ¬ (y : Int) = 0 := by omega
              go_wp2_with fail
              go_returns
              exact VTakeOut.bad
            · have h := HOK.out (by omega) (by omega) (by omega)
              injection h with h1 h; injection h with h2 h3
              subst h1 h2 h3
              obtain ⟨hx, hx2⟩ := HSTEP.out (by omega)
              clear h HOK hbad HSTEP
              have hb1' := Lib.hid hb1; have hb2' := Lib.hid hb2
              clear hb1 hb2
              have hn1 : n - (j + 1) ≤ 100000 := by omega
              rcases Nat.eq_zero_or_pos y with hy0 | hy0
              · obtain rfl : j = 0 := by have := hb1'.out; omega
                subst hy0
                have hx0 : bits BinOp.or IntKind.u64 (V : Int) 0 = (vval (b.take (0 + 1)) : Int) := by
                  rw [show IntKind.u64.wrap (((0 : Nat) : Int) % 128 * 2 ^ (7 * 0)) = 0 from by decide] at hx
                  exact hx
                have hcell' : wr.cell? ⟨bb, oo, none⟩ = some (.int .u8 0) := hcell
                have e1' : bits .andNot .u8 0 128 = 0 := by decide +kernel
                have e2' : bits .and .u8 0 128 = 0 := by decide +kernel
                clear hx hjL e1 e2 hcell
                generalize vval (b.take (0 + 1)) = Z at *
                go_wp2_with fail
                all_goals
                  refine (Clone_any _ _ _ (b.drop (0 + 1)) _ (by first | exact HR1.out | exact HR1.out.zero (by omega) _) (by omega)).mono ?_; rintro e w2 ⟨G2, n2, c2, rfl, hs2, hb2⟩
                  go_wp2_with fail
                  go_returns
                  exact ⟨_, _, _, rfl, hs2, hb2⟩
              · by_cases hj9 : j = 9
                · subst hj9
                  obtain rfl : y = 1 := by have := hb2'.out; omega
                  have hx0 : bits BinOp.or IntKind.u64 (V : Int) 9223372036854775808 = (vval (b.take (9 + 1)) : Int) := by
                    rw [show IntKind.u64.wrap (((1 : Nat) : Int) % 128 * 2 ^ (7 * 9)) = 9223372036854775808 from by decide] at hx
                    exact hx
                  have hcell' : wr.cell? ⟨bb, oo + 9, none⟩ = some (.int .u8 1) := hcell
                  have e1' : bits .andNot .u8 1 128 = 1 := by decide +kernel
                  have e2' : bits .and .u8 1 128 = 0 := by decide +kernel
                  clear hx hjL e1 e2 hcell
                  generalize vval (b.take (9 + 1)) = Z at *
                  go_wp2_with fail
                  all_goals
                    refine (Clone_any _ _ _ (b.drop (9 + 1)) _ (by first | exact HR1.out | exact HR1.out.zero (by omega) _) (by omega)).mono ?_; rintro e w2 ⟨G2, n2, c2, rfl, hs2, hb2⟩
                    go_wp2_with fail
                    go_returns
                    exact ⟨_, _, _, rfl, hs2, hb2⟩
                · have hne : ¬ (j : Int) = 9 := by omega
                  have hyz : ¬ (y : Int) = 0 := by omega
                  clear hjL
                  generalize vval (b.take (j + 1)) = Z at *
                  go_wp2_with fail
                  all_goals
                    refine (Clone_any _ _ _ (b.drop (j + 1)) _ (by first | exact HR1.out | exact HR1.out.zero (by omega) _) (by omega)).mono ?_; rintro e w2 ⟨G2, n2, c2, rfl, hs2, hb2⟩
                    go_wp2_with fail
                    go_returns
                    exact ⟨_, _, _, rfl, hs2, hb2⟩
      · have h := hbad.out (by
          rcases hin.out with ⟨h1, _⟩ | ⟨h1, h2, h3, _⟩
          · left; rw [HN.out]; omega
          · right; left; rw [h2]; exact h3)
        rw [HL.out] at h
        injection h with h1 h; injection h with h2 h3
        subst h1 h2 h3
        clear hin hbad hok hlg hls HL
        rcases (show n ≤ j ∨ j = 10 by omega) with hjj | rfl
        all_goals first
          | (exfalso; omega)
          | (go_wp2_with fail; go_returns; exact VTakeOut.bad)
end Go.Proofs.YtbmooemlekckbaaDoor

/- The reference of varint.Take. -/
namespace Go.Proofs.YtbmooemlekckbaaDoor
open Go.RowKit

theorem vval_cons_drop (l : List Int) (j : Nat) (h : j < l.length) : vval (l.drop j) = (l.getD j 0).toNat % 128 + 128 * vval (l.drop (j + 1)) := by
  rw [List.drop_eq_getElem_cons h]
  simp [vval, List.getD, List.getElem?_eq_getElem h]
theorem lead_at (b : List Int) (j : Nat) (h1 : ∀ i, i < j → 128 ≤ b.getD i 0) (h2 : b.length ≤ j ∨ 9 ≤ j ∨ b.getD j 0 < 128) (h3 : j ≤ b.length) (h4 : j ≤ 9) : lead 9 b = j := by
  have hle := lead_le 9 b
  have hlg := lead_ge 9 b
  have hls := lead_stop 9 b
  rcases Nat.lt_trichotomy (lead 9 b) j with h | h | h
  · have := hls (by omega) (by omega)
    have := h1 _ h
    omega
  · exact h
  · have := hlg j h
    omega

end Go.Proofs.YtbmooemlekckbaaDoor

/- varint.PutInt, TakeInt and their references. -/
namespace Go.Proofs.YtbmooemlekckbaaDoor
open Go.RowKit

/-- A number as one without a sign. -/
def unsN (x : Int) (s : Bool) : Nat := if s then (zig x).toNat else (x % 18446744073709551616).toNat
theorem unsN_lt (x : Int) (s : Bool) (h : -9223372036854775808 ≤ x ∧ x < 9223372036854775808) : unsN x s < 18446744073709551616 := by
  unfold unsN
  have := zig_range x h.1 h.2
  split <;> omega
def takeI (b : List Int) (s : Bool) : Int × List Int × Int :=
  if (vtakeR b).2.2 ≠ 0 then (0, [], 2)
  else if s then (zag (vtakeR b).1, (vtakeR b).2.1, 0)
  else if 9223372036854775808 ≤ (vtakeR b).1 then (0, [], 2)
  else ((vtakeR b).1, (vtakeR b).2.1, 0)
def ITakeOut (w : World) (x : Int) (l : List Int) (er : Int) (e : Ending) (w' : World) : Prop :=
  ∃ G n c, e = .returned (.tuple #[.int .i64 x, .slice G n c, .int .i64 er]) ∧ Sl w' .u8 G n c l ∧ Below w.heap.size w w'
theorem takeI_put (x : Int) (s : Bool) (h : -9223372036854775808 ≤ x ∧ x < 9223372036854775808) (h0 : s = true ∨ 0 ≤ x) (q : List Int) : takeI (vput (unsN x s) ++ q) s = (x, q, 0) := by
  unfold takeI
  rw [vtake_put _ (unsN_lt x s h) q]
  have hz := zig_range x h.1 h.2
  cases s
  · have : 0 ≤ x := by rcases h0 with h0 | h0; cases h0; exact h0
    have e : unsN x false = x.toNat := by unfold unsN; rw [if_neg (by simp)]; omega
    rw [e, if_neg (by simp), if_neg (by simp), if_neg (by dsimp only; omega)]
    dsimp only
    rw [show (x.toNat : Int) = x from by omega]
  · have e : ((unsN x true : Nat) : Int) = zig x := by unfold unsN; rw [if_pos rfl]; omega
    rw [if_neg (by simp), if_pos rfl]
    dsimp only
    rw [e, zag_zig]
theorem takeI_range (b : List Int) (s : Bool) : -9223372036854775808 ≤ (takeI b s).1 ∧ (takeI b s).1 < 9223372036854775808 := by
  unfold takeI
  split
  · simp
  · split
    · refine zag_range _ (by omega) ?_
      unfold vtakeR
      split
      · simp
      · split
        · have := Nat.mod_lt (vval (b.take (lead 9 b + 1))) (show 18446744073709551616 > 0 by omega)
          dsimp only; omega
        · simp
    · split
      · simp
      · dsimp only; omega
theorem takeI_u8 (b : List Int) (s : Bool) (hu : U8 b) : U8 (takeI b s).2.1 ∧ ((takeI b s).2.2 = 0 ∨ (takeI b s).2.2 = 2) := by
  have hnil : U8 [] := fun y hy => by cases hy
  have h := vtake_u8 b hu
  unfold takeI
  split
  · exact And.intro hnil (Or.inr rfl)
  · split
    · exact And.intro h.2.1 (Or.inl rfl)
    · split
      · exact And.intro hnil (Or.inr rfl)
      · exact And.intro h.2.1 (Or.inl rfl)
theorem u64_of_int (x : Int) : IntKind.u64.wrap x = ((unsN x false : Nat) : Int) := by
  rw [IntKind.wrap_u64]; unfold unsN; rw [if_neg (by simp)]; omega

set_option maxRecDepth 100000 in
set_option maxHeartbeats 1000000 in
theorem PutInt_any (w : World) (A : Option Addr) (n cap : Nat) (b : List Int) (hr : Ri w .u8 A n b) (hn : n ≤ 100000) (x : Int) (hx : -9223372036854775808 ≤ x ∧ x < 9223372036854775808) (s : Bool) :
    Calls Tryd.prog 70 #[.slice A n cap, .int .i64 x, .bool s] w (BytesOut w (b ++ vput (unsN x s))) := by
  have HR := Lib.hid hr; clear hr
  have hlt := unsN_lt x s hx
  cases s
  · have he := u64_of_int x
    go_enter Tryd.func70, Tryd.ntmps70
    go_wp2_with fail
    refine (VPut_any _ _ _ _ b HR.out hn (unsN x false) hlt).mono ?_; rintro e w2 ⟨G2, n2, c2, rfl, hs2, hb2⟩
    go_wp2_with fail
    go_ret
    exact ⟨_, _, _, rfl, hs2, hb2⟩
  · have hz := zig_range x hx.1 hx.2
    have HE := Lib.hid (show zig x = ((unsN x true : Nat) : Int) from by unfold unsN; rw [if_pos rfl]; omega)
    go_enter Tryd.func70, Tryd.ntmps70
    go_wp2_with fail
    refine (Zig_any _ _ hx.1 hx.2).mono ?_; rintro e w' ⟨rfl, rfl⟩
    rw [HE.out]
    go_wp2_with fail
    refine (VPut_any _ _ _ _ b HR.out hn (unsN x true) hlt).mono ?_; rintro e w2 ⟨G2, n2, c2, rfl, hs2, hb2⟩
    go_wp2_with fail
    go_ret
    exact ⟨_, _, _, rfl, hs2, hb2⟩
set_option maxRecDepth 100000 in
set_option maxHeartbeats 1000000 in
theorem TakeInt_any (w : World) (A : Option Addr) (n cap : Nat) (b : List Int) (hr : Ri w .u8 A n b) (hu : U8 b) (hc : n ≤ cap) (hm : cap ≤ 9223372036854775807) (hn : n ≤ 100000) (s : Bool) (x : Int) (r : List Int) (er : Int) (hl : takeI b s = (x, r, er)) :
    Calls Tryd.prog 83 #[.slice A n cap, .bool s] w (ITakeOut w x r er) := by
  have HR := Lib.hid hr; have HU := Lib.hid hu
  obtain ⟨X, t, e0, hv⟩ : ∃ X t e0, vtakeR b = (X, t, e0) := ⟨_, _, _, rfl⟩
  have hv8 := vtake_u8 b hu
  unfold takeI at hl
  rw [hv] at hl hv8
  obtain ⟨hX, _, he0⟩ := hv8
  dsimp only at hl hX he0
  have HV := Lib.hid hv
  clear hr hu hv
  rcases he0 with rfl | rfl
  · rw [if_neg (by decide)] at hl
    cases s
    · rw [if_neg (by decide)] at hl
      by_cases h63 : 9223372036854775808 ≤ X
      · rw [if_pos h63] at hl
        injection hl with h1 hl; injection hl with h2 h3
        subst h1 h2 h3
        have hq : ¬ (X : Int) / 9223372036854775808 = 0 := by omega
        have hX2 : (9223372036854775808 : Int) ≤ (X : Int) := by omega
        clear h63
        go_enter Tryd.func83, Tryd.ntmps83
        go_wp2_with fail
        refine (VTake_any _ _ _ _ b HR.out HU.out hc hm hn X t 0 HV.out).mono ?_; rintro e w2 ⟨G2, n2, c2, rfl, hs2, hb2⟩
        go_wp2_with fail
        go_returns
        exact ⟨none, 0, 0, rfl, Sl.nil _ _, hb2⟩
      · rw [if_neg h63] at hl
        injection hl with h1 hl; injection hl with h2 h3
        subst h1 h2 h3
        have hq : (X : Int) / 9223372036854775808 = 0 := by omega
        have hX2 : (X : Int) < 9223372036854775808 := by omega
        clear h63
        go_enter Tryd.func83, Tryd.ntmps83
        go_wp2_with fail
        refine (VTake_any _ _ _ _ b HR.out HU.out hc hm hn X t 0 HV.out).mono ?_; rintro e w2 ⟨G2, n2, c2, rfl, hs2, hb2⟩
        go_wp2_with fail
        go_returns
        exact ⟨_, _, _, rfl, hs2, hb2⟩
    · rw [if_pos rfl] at hl
      injection hl with h1 hl; injection hl with h2 h3
      subst h1 h2 h3
      go_enter Tryd.func83, Tryd.ntmps83
      go_wp2_with fail
      refine (VTake_any _ _ _ _ b HR.out HU.out hc hm hn X t 0 HV.out).mono ?_; rintro e w2 ⟨G2, n2, c2, rfl, hs2, hb2⟩
      go_wp2_with fail
      refine (Zag_any _ _ (by omega) (by omega)).mono ?_; rintro e w3 ⟨rfl, rfl⟩
      go_wp2_with fail
      go_returns
      exact ⟨_, _, _, rfl, hs2, hb2⟩
  · rw [if_pos (by decide)] at hl
    injection hl with h1 hl; injection hl with h2 h3
    subst h1 h2 h3
    go_enter Tryd.func83, Tryd.ntmps83
    go_wp2_with fail
    refine (VTake_any _ _ _ _ b HR.out HU.out hc hm hn X t 2 HV.out).mono ?_; rintro e w2 ⟨G2, n2, c2, rfl, hs2, hb2⟩
    go_wp2_with fail
    go_returns
    exact ⟨none, 0, 0, rfl, Sl.nil _ _, hb2⟩

end Go.Proofs.YtbmooemlekckbaaDoor

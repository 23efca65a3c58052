/- Joined texts: NulT. Each has its own head line. No condition beyond those that its theorems state. -/
import Derived.Test.YtlmfdmaoakckgaaJ43
import Derived.Test.YtlmfdmaoakckgaaJ41
import Derived.Test.YtlmfdmaoakckgaaJ34
set_option linter.unusedVariables false

/- nulls.Take and its reference. -/
namespace Go.Proofs.Ytlmfdmaoakckgaa
open Go.RowKit

def takeN (b : List Int) (many : Int) : List Bool × Int :=
  if many < 0 ∨ 4096 < many then ([], 1)
  else if b.length = 0 then (List.replicate many.toNat true, 0)
  else if (takeB b many).2.2 ≠ 0 ∨ 0 < (takeB b many).2.1.length ∨ (countB (takeB b many).1 : Int) = many then ([], 2)
  else ((takeB b many).1, 0)
def TakeOutN (w : World) (l : List Bool) (er : Int) (e : Ending) (w' : World) : Prop :=
  ∃ G n c, e = .returned (.tuple #[.slice G n c, .int .i64 er]) ∧ Sb w' G n c l ∧ Below w.heap.size w w'

theorem rb_zero {w : World} {A : Option Addr} {z : Nat} (h : z ≤ 0) : Rb w A z [] := by
  have e : z = 0 := by omega
  subst e; exact Rb.nil _ _
theorem min_zero (z : Nat) (h : z ≤ 0) : Nat.min 1 z = 0 := by
  have e : z = 0 := by omega
  subst e; rfl
set_option maxRecDepth 100000 in
set_option maxHeartbeats 1000000 in
theorem RepeatTr_zero (w : World) (A : Option Addr) (cap : Nat) (c : Bool) (hr : Rb w A 1 [c]) (z : Nat) (hz : z ≤ 0) :
    Calls Try.prog 49 #[.slice A 1 cap, .int .i64 z] w (RepOutT w []) := by
  have HR := Lib.hid hr; clear hr
  have hmk := fun W => Go.run_make_row' (P := Try.prog) 31 4 (.bool false) 1 Try.underlying31 info_bool rfl .i64 .i64 z (by omega) (by omega) W
  go_enter Try.func49, Try.ntmps49
  go_wp2_with fail
  refine (Mul_one z (by omega) _).mono ?_; rintro e w' ⟨rfl, rfl⟩
  go_wp2_with (refine wpList_copy_nothing rfl (.tmp 31) (.tmp 32) 31 31 rfl 4 Try.underlying31 (by kernel_rfl) _ _ z z 1 cap rfl rfl (min_zero z hz) ?_)
  go_loopw [8] (fun bp wr => bp = .int .i64 0 ∧ Hid (Below w.heap.size w wr)) (fun _ _ => 0)
  case atStart => exact ⟨rfl, (Below.refl _ _).alloc (Nat.le_refl _) _⟩
  case round =>
    obtain ⟨rfl, hb⟩ := hrel
    go_wp2_with fail
    go_ret
    exact ⟨_, _, _, rfl, ⟨rb_zero (by omega), Nat.le_refl _, by omega⟩, hb.out⟩

set_option maxRecDepth 100000 in
set_option maxHeartbeats 1000000 in
theorem TakeN_any (w : World) (A : Option Addr) (n cap : Nat) (b : List Int) (hr : Ri w .u8 A n b) (hu : U8 b) (hc : n ≤ cap) (hm : cap ≤ 9223372036854775807) (hn : n ≤ 1000000) (many : Int) (l : List Bool) (er : Int) (hl : takeN b many = (l, er)) :
    Calls Try.prog 20 #[.slice A n cap, .int .i64 many] w (TakeOutN w l er) := by
  have HR := Lib.hid hr; have HU := Lib.hid hu
  unfold takeN at hl
  rw [hr.len] at hl
  clear hr hu
  by_cases hbad : many < 0 ∨ 4096 < many
  · rw [if_pos hbad] at hl
    have HL := Lib.hid hl
    clear hl
    rcases hbad with h | h
    · go_enter Try.func20, Try.ntmps20
      go_wp2_with fail
      go_ret2
      obtain ⟨rfl, rfl⟩ := Prod.mk.inj HL.out
      exact ⟨_, _, _, rfl, Sb.nil _, Below.refl _ _⟩
    · have h0 : ¬ many < 0 := by omega
      go_enter Try.func20, Try.ntmps20
      go_wp2_with fail
      go_ret2
      obtain ⟨rfl, rfl⟩ := Prod.mk.inj HL.out
      exact ⟨_, _, _, rfl, Sb.nil _, Below.refl _ _⟩
  · rw [if_neg hbad] at hl
    have h0 : 0 ≤ many := by omega
    have h1 : many ≤ 4096 := by omega
    clear hbad
    obtain ⟨m, rfl⟩ := Int.eq_ofNat_of_zero_le h0
    rcases Nat.eq_zero_or_pos n with hz | hz
    · subst hz
      rw [if_pos rfl, Int.toNat_natCast] at hl
      have HL := Lib.hid hl
      clear hl
      rcases Nat.eq_zero_or_pos m with hm0 | hm0
      · have HM0 := Lib.hid hm0
        have hm1 : m ≤ 0 := by omega
        clear hm0
        go_enter Try.func20, Try.ntmps20
        go_wp2_with fail
        refine (RepeatTr_zero _ _ _ true (Rd.one _ _ _) m hm1).mono ?_; rintro e w1 ⟨G1, n1, c1, rfl, hs1, hb1⟩
        have HS := Lib.hid hs1; have HB := Lib.hid (on ((Below.refl w.heap.size w).alloc (Nat.le_refl _) _) hb1)
        clear hs1 hb1
        go_wp2_with fail
        go_ret2
        have h := HL.out
        rw [HM0.out] at h
        obtain ⟨rfl, rfl⟩ := Prod.mk.inj h
        exact ⟨_, _, _, rfl, HS.out, HB.out⟩
      · go_enter Try.func20, Try.ntmps20
        go_wp2_with fail
        refine (RepeatTr_any _ _ _ true (Rd.one _ _ _) m hm0 (by omega)).mono ?_; rintro e w1 ⟨G1, n1, c1, rfl, hs1, hb1⟩
        have HS := Lib.hid hs1; have HB := Lib.hid (on ((Below.refl w.heap.size w).alloc (Nat.le_refl _) _) hb1)
        clear hs1 hb1
        go_wp2_with fail
        go_ret2
        obtain ⟨rfl, rfl⟩ := Prod.mk.inj HL.out
        exact ⟨_, _, _, rfl, HS.out, HB.out⟩
    · rw [if_neg (by omega)] at hl
      have hz2 : ((n : Int) == 0) = false := by simp; omega
      obtain ⟨t, r, e0, ht⟩ : ∃ t r e0, takeB b (m : Int) = (t, r, e0) := ⟨_, _, _, rfl⟩
      rw [ht] at hl
      dsimp only at hl
      have HT := Lib.hid ht; have HL := Lib.hid hl
      have htl : t.length ≤ 4096 := by have := takeB_len b (m : Int); rw [ht] at this; exact this
      clear ht hl
      go_enter Try.func20, Try.ntmps20
      go_wp2_with fail
      refine (BTake_any _ _ _ _ b HR.out HU.out hc hm hn m t r e0 HT.out).mono ?_; rintro e w1 ⟨G1, n1, c1, G2, n2, c2, rfl, hs1, hs2, hb⟩
      have HS1 := Lib.hid hs1; have HB := Lib.hid hb; have HN1 := Lib.hid hs1.1.len; have HN2 := Lib.hid hs2.1.len
      have hn1 : n1 ≤ 4096 := by have := hs1.1.len; omega
      clear hs1 hs2 hb
      by_cases he : e0 = 0
      · subst he
        by_cases hr2 : 0 < n2
        · have h2 : (0 : Int) < (n2 : Int) := by omega
          go_wp2_with fail
          go_ret2
          have h := HL.out
          rw [if_pos (.inr (.inl (by rw [HN2.out]; exact hr2)))] at h
          obtain ⟨rfl, rfl⟩ := Prod.mk.inj h
          exact ⟨_, _, _, rfl, Sb.nil _, HB.out⟩
        · have h2 : ¬ (0 : Int) < (n2 : Int) := by omega
          go_wp2_with fail
          refine (Count_any _ _ _ _ t HS1.out.1 (by omega)).mono ?_; rintro e w' ⟨rfl, rfl⟩
          by_cases hcm : countB t = m
          · have h3 : ((countB t : Int) == (m : Int)) = true := by simp; omega
            go_wp2_with fail
            go_ret2
            have h := HL.out
            rw [if_pos (.inr (.inr (by omega)))] at h
            obtain ⟨rfl, rfl⟩ := Prod.mk.inj h
            exact ⟨_, _, _, rfl, Sb.nil _, HB.out⟩
          · have h3 : ((countB t : Int) == (m : Int)) = false := by simp; omega
            have HR2 := Lib.hid (show ¬ ((0 : Int) ≠ 0 ∨ 0 < r.length ∨ (countB t : Int) = (m : Int)) from by
              rw [HN2.out]
              rintro (h | h | h)
              · exact h rfl
              · exact hr2 h
              · omega)
            clear hcm
            go_wp2_with fail
            go_ret2
            have h := HL.out
            rw [if_neg HR2.out] at h
            obtain ⟨rfl, rfl⟩ := Prod.mk.inj h
            exact ⟨_, _, _, rfl, HS1.out, HB.out⟩
      · have h3 : (e0 != 0) = true := by simp [he]
        go_wp2_with fail
        go_ret2
        have h := HL.out
        rw [if_pos (.inl he)] at h
        obtain ⟨rfl, rfl⟩ := Prod.mk.inj h
        exact ⟨_, _, _, rfl, Sb.nil _, HB.out⟩

set_option maxRecDepth 100000 in
set_option maxHeartbeats 1000000 in
theorem refTakeN_any (w : World) (A : Option Addr) (n cap : Nat) (b : List Int) (hr : Ri w .u8 A n b) (hu : U8 b) (hc : n ≤ cap) (hm : cap ≤ 9223372036854775807) (hn : n ≤ 1000000) (many : Int) (l : List Bool) (er : Int) (hl : takeN b many = (l, er)) :
    Calls Try.prog 21 #[.slice A n cap, .int .i64 many] w (TakeOutN w l er) := by
  have HR := Lib.hid hr; have HU := Lib.hid hu
  unfold takeN at hl
  rw [hr.len] at hl
  clear hr hu
  by_cases hbad : many < 0 ∨ 4096 < many
  · rw [if_pos hbad] at hl
    have HL := Lib.hid hl
    clear hl
    rcases hbad with h | h
    · go_enter Try.func21, Try.ntmps21
      go_wp2_with fail
      go_ret2
      obtain ⟨rfl, rfl⟩ := Prod.mk.inj HL.out
      exact ⟨_, _, _, rfl, Sb.nil _, Below.refl _ _⟩
    · have h0 : ¬ many < 0 := by omega
      go_enter Try.func21, Try.ntmps21
      go_wp2_with fail
      go_ret2
      obtain ⟨rfl, rfl⟩ := Prod.mk.inj HL.out
      exact ⟨_, _, _, rfl, Sb.nil _, Below.refl _ _⟩
  · rw [if_neg hbad] at hl
    have h0 : 0 ≤ many := by omega
    have h1 : many ≤ 4096 := by omega
    clear hbad
    obtain ⟨m, rfl⟩ := Int.eq_ofNat_of_zero_le h0
    rcases Nat.eq_zero_or_pos n with hz | hz
    · subst hz
      rw [if_pos rfl, Int.toNat_natCast] at hl
      have HL := Lib.hid hl
      clear hl
      go_enter Try.func21, Try.ntmps21
      go_wp2_with fail
      have HE := Lib.hid (own_empty w 4 1)
      go_loopw [6, 7] (fun v i wr => ∃ j : Nat, j ≤ m ∧ i = .int .i64 j ∧ Hid (wr.ownsRow w.heap.size 4 1 v j ((List.replicate j true).map Value.bool)) ∧ Hid (Below w.heap.size w wr)) (fun _ i _ => m - (intOf i).toNat)
      case atStart => exact ⟨0, by omega, rfl, HE, (Below.refl _ _).alloc (Nat.le_refl _) _⟩
      case round =>
        obtain ⟨j, hj, rfl, ho, hb⟩ := hrel
        have hsz := hb.out.size
        by_cases hlt : j < m
        · have HE := Lib.hid (List.replicate_succ' (n := j) (a := true))
          go_wp2_with (at_builtin; refine wpList_bool _ rfl _ _ rfl w.heap.size _ j _ rfl (own_below ho.out ((Below.refl _ _).alloc (Nat.le_refl _) _)) _ 1 1 [_] rfl (Rd.one _ _ _) (by omega) (by simp; omega) ?_; intro G c w3 hown hgr hcc)
          have HOWN := Lib.hid hown; have HNB := Lib.hid (push_ hb.out (Nat.le_refl _) ho.out hgr)
          clear hown hgr
          go_wp2_with fail
          go_roundw
          case rel => exact ⟨j + 1, by omega, by go_num, by rw [HE.out]; exact HOWN, HNB⟩
          case measure => simp [intOf] <;> omega
        · obtain rfl : j = m := by omega
          obtain ⟨G, c, rfl⟩ := own_form ho.out
          go_wp2_with fail
          go_ret2
          obtain ⟨rfl, rfl⟩ := Prod.mk.inj HL.out
          exact ⟨_, _, _, rfl, Sb.of_own ho.out, hb.out⟩
    · rw [if_neg (by omega)] at hl
      have hz2 : ((n : Int) == 0) = false := by simp; omega
      obtain ⟨t, r, e0, ht⟩ : ∃ t r e0, takeB b (m : Int) = (t, r, e0) := ⟨_, _, _, rfl⟩
      rw [ht] at hl
      dsimp only at hl
      have HT := Lib.hid ht; have HL := Lib.hid hl
      have htl : t.length ≤ 4096 := by have := takeB_len b (m : Int); rw [ht] at this; exact this
      clear ht hl
      go_enter Try.func21, Try.ntmps21
      go_wp2_with fail
      refine (refBTake_any _ _ _ _ b HR.out HU.out hc hm hn m t r e0 HT.out).mono ?_; rintro e w1 ⟨G1, n1, c1, G2, n2, c2, rfl, hs1, hs2, hb⟩
      have HS1 := Lib.hid hs1; have HB := Lib.hid hb; have HN1 := Lib.hid hs1.1.len; have HN2 := Lib.hid hs2.1.len
      have hn1 : n1 ≤ 4096 := by have := hs1.1.len; omega
      clear hs1 hs2 hb
      by_cases he : e0 = 0
      · subst he
        by_cases hr2 : 0 < n2
        · have h2 : (0 : Int) < (n2 : Int) := by omega
          go_wp2_with fail
          go_ret2
          have h := HL.out
          rw [if_pos (.inr (.inl (by rw [HN2.out]; exact hr2)))] at h
          obtain ⟨rfl, rfl⟩ := Prod.mk.inj h
          exact ⟨_, _, _, rfl, Sb.nil _, HB.out⟩
        · have h2 : ¬ (0 : Int) < (n2 : Int) := by omega
          go_wp2_with fail
          refine (refCount_any _ _ _ _ t HS1.out.1 (by omega)).mono ?_; rintro e w' ⟨rfl, rfl⟩
          by_cases hcm : countB t = m
          · have h3 : ((countB t : Int) == (m : Int)) = true := by simp; omega
            go_wp2_with fail
            go_ret2
            have h := HL.out
            rw [if_pos (.inr (.inr (by omega)))] at h
            obtain ⟨rfl, rfl⟩ := Prod.mk.inj h
            exact ⟨_, _, _, rfl, Sb.nil _, HB.out⟩
          · have h3 : ((countB t : Int) == (m : Int)) = false := by simp; omega
            have HR2 := Lib.hid (show ¬ ((0 : Int) ≠ 0 ∨ 0 < r.length ∨ (countB t : Int) = (m : Int)) from by
              rw [HN2.out]
              rintro (h | h | h)
              · exact h rfl
              · exact hr2 h
              · omega)
            clear hcm
            go_wp2_with fail
            go_ret2
            have h := HL.out
            rw [if_neg HR2.out] at h
            obtain ⟨rfl, rfl⟩ := Prod.mk.inj h
            exact ⟨_, _, _, rfl, HS1.out, HB.out⟩
      · have h3 : (e0 != 0) = true := by simp [he]
        go_wp2_with fail
        go_ret2
        have h := HL.out
        rw [if_pos (.inl he)] at h
        obtain ⟨rfl, rfl⟩ := Prod.mk.inj h
        exact ⟨_, _, _, rfl, Sb.nil _, HB.out⟩
end Go.Proofs.Ytlmfdmaoakckgaa

/- Joined texts: NulP. Each has its own head line. No condition beyond those that its theorems state. -/
import Derived.Test.YtlmfdmaoakckgaaJ18
import Derived.Test.YtlmfdmaoakckgaaJ32
import Derived.Test.YtlmfdmaoakckgaaJ36
set_option linter.unusedVariables false

/- nulls.Put and its reference. -/
namespace Go.Proofs.Ytlmfdmaoakckgaa
open Go.RowKit

theorem someV_le (l : List Val) : (someV l).length ≤ l.length := List.length_filter_le _ _
/-- What Put answers. -/
def putN (l : List Val) : List Int × List Val × Int :=
  if 4096 < l.length then ([], [], 3) else if (someV l).length < l.length then (enc 0 [] (bytesB (presB l)), someV l, 0) else ([], someV l, 0)
def PutOutN (w : World) (b : List Int) (s : List Val) (er : Int) (e : Ending) (w' : World) : Prop :=
  ∃ G n c G2 n2 c2, e = .returned (.tuple #[.slice G n c, .slice G2 n2 c2, .int .i64 er]) ∧ Sl w' .u8 G n c b ∧ Sv w' G2 n2 c2 s ∧ Below w.heap.size w w'
theorem pres_put (l : List Val) (h : l.length ≤ 4096) : putB (presB l) = (enc 0 [] (bytesB (presB l)), 0) := put_takes _ (by rw [presB_len]; exact h)

set_option maxRecDepth 100000 in
set_option maxHeartbeats 1000000 in
theorem PutN_any (w : World) (A : Option Addr) (n cap : Nat) (l : List Val) (hr : Rv w A n l) (hn : n ≤ 1000000) (b : List Int) (s : List Val) (er : Int) (hl : putN l = (b, s, er)) :
    Calls Try.prog 12 #[.slice A n cap] w (PutOutN w b s er) := by
  have HR := Lib.hid hr; have HN := Lib.hid hr.len
  unfold putN at hl
  rw [hr.len] at hl
  have hsl := someV_le l
  rw [hr.len] at hsl
  clear hr
  rcases Nat.lt_or_ge 4096 n with h4 | h4
  · rw [if_pos h4] at hl
    have HL := Lib.hid hl
    clear hl
    go_enter Try.func12, Try.ntmps12
    go_wp2_with fail
    go_ret3
    have h := HL.out
    injection h with h1 h2
    injection h2 with h2 h3
    subst h1 h2 h3
    exact ⟨_, _, _, _, _, _, rfl, Sl.nil _ _, Sv.nil _, Below.refl _ _⟩
  · rw [if_neg (by omega)] at hl
    have HL := Lib.hid hl
    have HP := Lib.hid (pres_put l (by rw [HN.out]; exact h4))
    clear hl
    go_enter Try.func12, Try.ntmps12
    go_wp2_with fail
    refine (Split_any _ _ _ _ l HR.out hn).mono ?_; rintro e w1 ⟨G1, n1, c1, G2, n2, c2, rfl, hs1, hs2, hb⟩
    have HN1 := Lib.hid hs1.1.len; have HN2 := Lib.hid hs2.1.len; have HB := Lib.hid hb; have HS1 := Lib.hid hs1; have HS2 := Lib.hid hs2
    have hn1 : n1 ≤ 1000000 := by have h1 := hs1.1.len; rw [presB_len] at h1; have := HN.out; omega
    have hn2 : n2 ≤ n := by have h1 := hs2.1.len; omega
    clear hb hs1 hs2
    by_cases hlt : n2 < n
    · go_wp2_with fail
      refine (BPut_any _ _ _ _ _ HS1.out.1 hn1 _ _ HP.out).mono ?_; rintro e w2 ⟨G3, n3, c3, rfl, hs3, hb2⟩
      have HS3 := Lib.hid hs3; have HS4 := Lib.hid (HS2.out.below hb2); have HB2 := Lib.hid (on HB.out hb2)
      clear hs3 hb2
      go_wp2_with fail
      go_ret3
      have h := HL.out
      rw [if_pos (by rw [HN2.out]; exact hlt)] at h
      injection h with h1 h2
      injection h2 with h2 h3
      subst h1 h2 h3
      exact ⟨_, _, _, _, _, _, rfl, HS3.out, HS4.out, HB2.out⟩
    · go_wp2_with fail
      go_ret3
      have h := HL.out
      rw [if_neg (by rw [HN2.out]; exact hlt)] at h
      injection h with h1 h2
      injection h2 with h2 h3
      subst h1 h2 h3
      exact ⟨_, _, _, _, _, _, rfl, Sl.nil _ _, HS2.out, HB.out⟩

set_option maxRecDepth 100000 in
set_option maxHeartbeats 1000000 in
theorem refPutN_any (w : World) (A : Option Addr) (n cap : Nat) (l : List Val) (hr : Rv w A n l) (hn : n ≤ 1000000) (b : List Int) (s : List Val) (er : Int) (hl : putN l = (b, s, er)) :
    Calls Try.prog 13 #[.slice A n cap] w (PutOutN w b s er) := by
  have HR := Lib.hid hr; have HN := Lib.hid hr.len
  unfold putN at hl
  rw [hr.len] at hl
  have hsl := someV_le l
  rw [hr.len] at hsl
  clear hr
  rcases Nat.lt_or_ge 4096 n with h4 | h4
  · rw [if_pos h4] at hl
    have HL := Lib.hid hl
    clear hl
    go_enter Try.func13, Try.ntmps13
    go_wp2_with fail
    go_ret3
    have h := HL.out
    injection h with h1 h2
    injection h2 with h2 h3
    subst h1 h2 h3
    exact ⟨_, _, _, _, _, _, rfl, Sl.nil _ _, Sv.nil _, Below.refl _ _⟩
  · rw [if_neg (by omega)] at hl
    have HL := Lib.hid hl
    have HP := Lib.hid (pres_put l (by rw [HN.out]; exact h4))
    clear hl
    go_enter Try.func13, Try.ntmps13
    go_wp2_with fail
    refine (refSplit_any _ _ _ _ l HR.out hn).mono ?_; rintro e w1 ⟨G1, n1, c1, G2, n2, c2, rfl, hs1, hs2, hb⟩
    have HN1 := Lib.hid hs1.1.len; have HN2 := Lib.hid hs2.1.len; have HB := Lib.hid hb; have HS1 := Lib.hid hs1; have HS2 := Lib.hid hs2
    have hn1 : n1 ≤ 1000000 := by have h1 := hs1.1.len; rw [presB_len] at h1; have := HN.out; omega
    have hn2 : n2 ≤ n := by have h1 := hs2.1.len; omega
    clear hb hs1 hs2
    by_cases hlt : n2 < n
    · have hbq : ((n2 : Int) == (n : Int)) = false := by simp; omega
      go_wp2_with fail
      refine (refBPut_any _ _ _ _ _ HS1.out.1 hn1 _ _ HP.out).mono ?_; rintro e w2 ⟨G3, n3, c3, rfl, hs3, hb2⟩
      have HS3 := Lib.hid hs3; have HS4 := Lib.hid (HS2.out.below hb2); have HB2 := Lib.hid (on HB.out hb2)
      clear hs3 hb2
      go_wp2_with fail
      go_ret3
      have h := HL.out
      rw [if_pos (by rw [HN2.out]; exact hlt)] at h
      injection h with h1 h2
      injection h2 with h2 h3
      subst h1 h2 h3
      exact ⟨_, _, _, _, _, _, rfl, HS3.out, HS4.out, HB2.out⟩
    · have hbq : ((n2 : Int) == (n : Int)) = true := by simp; omega
      go_wp2_with fail
      go_ret3
      have h := HL.out
      rw [if_neg (by rw [HN2.out]; exact hlt)] at h
      injection h with h1 h2
      injection h2 with h2 h3
      subst h1 h2 h3
      exact ⟨_, _, _, _, _, _, rfl, Sl.nil _ _, HS2.out, HB.out⟩
end Go.Proofs.Ytlmfdmaoakckgaa

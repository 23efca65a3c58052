/- Joined texts: NulE. Each has its own head line. No condition beyond those that its theorems state. -/
import Derived.Test.YtlmfdmaoakckgaaJ11
import Derived.Test.YtlmfdmaoakckgaaJ12
set_option linter.unusedVariables false

/- nulls.is, nulls.each of it. -/
namespace Go.Proofs.Ytlmfdmaoakckgaa
open Go.RowKit

set_option maxHeartbeats 400000 in
theorem is_any (w : World) (v : Val) :
    Calls Try.prog 44 #[.agg #[.bool v.null, .int .i64 v.n, .string v.s]] w fun e w' => e = .returned (.bool (!v.null)) ∧ Below w.heap.size w w' := by
  go_enter Try.func44, Try.ntmps44
  go_wp2_with fail
  go_ret
  exact ⟨rfl, (Below.refl w.heap.size w).alloc (Nat.le_refl _) _⟩
def isFn : Value := .func (.func 44) #[] #[]
def BoolsOut (w : World) (l : List Bool) (e : Ending) (w' : World) : Prop :=
  ∃ G n c, e = .returned (.slice G n c) ∧ Sb w' G n c l ∧ Below w.heap.size w w'

set_option maxRecDepth 100000 in
set_option maxHeartbeats 1000000 in
theorem eachIs_any (w : World) (A : Option Addr) (n cap : Nat) (l : List Val) (hr : Rv w A n l) (hn : n ≤ 1000000) :
    Calls Try.prog 43 #[.slice A n cap, isFn] w (BoolsOut w (l.map fun v => !v.null)) := by
  have HR := Lib.hid hr; have HN := Lib.hid hr.len
  clear hr
  unfold isFn
  go_enter Try.func43, Try.ntmps43
  go_wp2_with fail
  go_loopw [5, 10] (fun v i wr => ∃ j : Nat, j ≤ n ∧ i = .int .i64 j ∧ Hid (wr.ownsRow w.heap.size 4 1 v j (((l.take j).map fun v => !v.null).map Value.bool)) ∧ Hid (Below w.heap.size w wr)) (fun _ i _ => n - (intOf i).toNat)
  case atStart => exact ⟨0, by omega, rfl, Lib.hid (World.ownsRow_nil _ _ _ _), Below.refl _ _⟩
  case round =>
    obtain ⟨j, hj, rfl, ho, hb⟩ := hrel
    by_cases hlt : j < n
    · obtain ⟨b, o, v, hA, hbl, hv, h1, h2, h3⟩ := HR.out.at_ hlt
      subst hA
      have g1 := (hb.out.cell (p := ⟨b, o + j * 3, none⟩) hbl).trans h1
      have g2 := (hb.out.cell (p := ⟨b, o + j * 3 + 1, none⟩) hbl).trans h2
      have g3 := (hb.out.cell (p := ⟨b, o + j * 3 + 2, none⟩) hbl).trans h3
      have HV := Lib.hid hv
      clear h1 h2 h3 hv
      go_wp2_with fail
      refine (is_any _ v).mono ?_; rintro e w2 ⟨rfl, hb2⟩
      have HB2 := Lib.hid (on ((Below.refl wr.heap.size wr).alloc (Nat.le_refl _) _) hb2)
      have HO2 := Lib.hid (own_below ho.out HB2.out)
      have HW2 := Lib.hid (on hb.out HB2.out)
      have hz2 := HW2.out.size
      have ht := Lib.hid (List.take_add_one (l := l) (i := j))
      clear hb2
      go_wp2_with (at_builtin; refine wpList_bool _ rfl _ _ rfl w.heap.size _ j _ rfl (own_below HO2.out ((Below.refl _ _).alloc (Nat.le_refl _) _)) _ 1 1 [_] rfl (Rd.one _ _ _) (by omega) (by simp; omega) ?_; intro G c w3 hown hgr hcc)
      have HOWN := Lib.hid hown; have HNB := Lib.hid (push_ HW2.out (Nat.le_refl _) HO2.out hgr)
      clear hown hgr
      go_wp2_with fail
      go_roundw
      case rel =>
        refine ⟨j + 1, by omega, by go_num, ?_, HNB⟩
        have h := HOWN.out
        rw [ht.out, HV.out, Option.toList_some, List.map_append]
        exact Lib.hid h
      case measure => simp [intOf] <;> omega
    · obtain rfl : j = n := by omega
      obtain ⟨G, c, rfl⟩ := own_form ho.out
      go_wp2_with fail
      go_ret
      have h := ho.out
      rw [List.take_of_length_le (by rw [HN.out]; omega)] at h
      exact ⟨_, _, _, rfl, Sb.of_own h, hb.out⟩

/-- Values of the call's own are handed back. -/
def OwnOutV (w : World) (l : List Val) (e : Ending) (w' : World) : Prop :=
  ∃ G n c, e = .returned (.slice G n c) ∧ Hid (w'.ownsRow w.heap.size 42 3 (.slice G n c) n (cellsV l)) ∧ Below w.heap.size w w'
set_option maxRecDepth 100000 in
set_option maxHeartbeats 400000 in
theorem CloneV_any (A : Option Addr) (n cap : Nat) (l : List Val) (w : World) (hr : Rv w A n l) (hn : n ≤ 1000000) :
    Calls Try.prog 41 #[.slice A n cap] w (OwnOutV w l) := by
  have q := fun (w : World) (a : Option Addr) (n c : Nat) => Lib.run_eql_slice_nil (P := Try.prog) w 22 42 a n c 0 0 Try.underlying22
  have HR := Lib.hid hr; clear hr
  cases A with
  | none =>
    have hn0 : n = 0 := by
      rcases Nat.eq_zero_or_pos n with h | h
      · exact h
      · obtain ⟨b, o, v, e, _⟩ := HR.out.at_ h; cases e
    subst hn0
    have hl : l = [] := List.eq_nil_of_length_eq_zero HR.out.len
    subst hl
    go_enter Try.func41, Try.ntmps41
    go_wp2_with fail
    go_ret
    exact ⟨none, 0, 0, rfl, World.ownsRow_nil _ _ _ _, Below.refl _ _⟩
  | some a =>
    go_enter Try.func41, Try.ntmps41
    go_wp2_with (at_builtin; refine wpList_val _ rfl _ _ rfl w.heap.size _ 0 [] rfl (own_empty w _ 3) _ n _ l rfl (HR.out.alloc _) (by omega) (by simp) ?_; intro G c w1 hown hgr _)
    have HO := Lib.hid hown; clear hown
    go_wp2_with fail
    go_ret
    rw [Nat.zero_add, List.nil_append] at HO
    exact ⟨G, n, c, rfl, HO, push0 ((Below.refl _ _).alloc (Nat.le_refl _) _) (Nat.le_refl _) (own_empty w _ 3) hgr⟩
end Go.Proofs.Ytlmfdmaoakckgaa

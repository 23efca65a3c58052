/- Joined texts: NulI. Each has its own head line. No condition beyond those that its theorems state. -/
import Derived.Test.YtlmfdmaoakckgaaJ15
set_option linter.unusedVariables false

/- slices.IndexFunc of what is nothing. -/
namespace Go.Proofs.Ytlmfdmaoakckgaa
open Go.RowKit

def nullFn : Value := .func (.func 42) #[] #[]
set_option maxHeartbeats 400000 in
theorem null_any (w : World) (v : Val) :
    Calls Try.prog 42 #[.agg #[.bool v.null, .int .i64 v.n, .string v.s]] w fun e w' => e = .returned (.bool v.null) ∧ Below w.heap.size w w' := by
  go_enter Try.func42, Try.ntmps42
  go_wp2_with fail
  go_ret
  exact ⟨rfl, (Below.refl w.heap.size w).alloc (Nat.le_refl _) _⟩
/-- The first one that is nothing is at k; or none is. -/
def FirstNull (l : List Val) (k : Int) : Prop :=
  (k = -1 ∧ ∀ (q : Nat) (v : Val), l[q]? = some v → v.null = false) ∨ ∃ j : Nat, k = j ∧ j < l.length ∧ (∀ (q : Nat) (v : Val), q < j → l[q]? = some v → v.null = false) ∧ ∃ v : Val, l[j]? = some v ∧ v.null = true

set_option maxRecDepth 100000 in
set_option maxHeartbeats 1000000 in
theorem indexNull_any (w : World) (A : Option Addr) (n cap : Nat) (l : List Val) (hr : Rv w A n l) (hn : n ≤ 1000000) :
    Calls Try.prog 61 #[.slice A n cap, nullFn] w fun e w' => ∃ k, e = .returned (.int .i64 k) ∧ FirstNull l k ∧ Below w.heap.size w w' := by
  have HR := Lib.hid hr; have HN := Lib.hid hr.len
  clear hr
  unfold nullFn
  go_enter Try.func61, Try.ntmps61
  go_wp2_with fail
  go_loopw [8] (fun i wr => ∃ j : Nat, j ≤ n ∧ i = .int .i64 j ∧ Hid (∀ (q : Nat) (v : Val), q < j → l[q]? = some v → v.null = false) ∧ Hid (Below w.heap.size w wr)) (fun i _ => n - (intOf i).toNat)
  case atStart => exact ⟨0, by omega, rfl, Lib.hid (fun q v h => absurd h (by omega)), Below.refl _ _⟩
  case round =>
    obtain ⟨j, hj, rfl, hz, hb⟩ := hrel
    by_cases hlt : j < n
    · obtain ⟨b, o, v, hA, hbl, hv, h1, h2, h3⟩ := HR.out.at_ hlt
      subst hA
      have g1 := (hb.out.cell (p := ⟨b, o + j * 3, none⟩) hbl).trans h1
      have g2 := (hb.out.cell (p := ⟨b, o + j * 3 + 1, none⟩) hbl).trans h2
      have g3 := (hb.out.cell (p := ⟨b, o + j * 3 + 2, none⟩) hbl).trans h3
      have HV := Lib.hid hv
      clear h1 h2 h3 hv
      go_wp2_with fail
      refine (null_any _ v).mono ?_; rintro e w2 ⟨rfl, hb2⟩
      have HW2 := Lib.hid (on hb.out hb2)
      clear hb2
      cases hvn : v.null
      · have HVN := Lib.hid hvn
        clear hvn
        go_wp2_with fail
        go_roundw
        case rel =>
          refine ⟨j + 1, by omega, by go_num, Lib.hid (fun q u h1 h2 => ?_), HW2⟩
          rcases Nat.lt_or_ge q j with h3 | h3
          · exact hz.out q u h3 h2
          · obtain rfl : q = j := by omega
            rw [HV.out] at h2
            injection h2 with h2
            rw [← h2]; exact HVN.out
        case measure => simp [intOf] <;> omega
      · have HVN := Lib.hid hvn
        clear hvn
        go_wp2_with fail
        go_ret
        exact ⟨_, rfl, Or.inr ⟨j, rfl, by rw [HN.out]; exact hlt, hz.out, v, HV.out, HVN.out⟩, HW2.out⟩
    · obtain rfl : j = n := by omega
      go_wp2_with fail
      go_ret
      refine ⟨_, rfl, Or.inl ⟨rfl, fun q v h => hz.out q v ?_ h⟩, hb.out⟩
      have := (List.getElem?_eq_some_iff.1 h).1
      rw [HN.out] at this
      exact this
end Go.Proofs.Ytlmfdmaoakckgaa

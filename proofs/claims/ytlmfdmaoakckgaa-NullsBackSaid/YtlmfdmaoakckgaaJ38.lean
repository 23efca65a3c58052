/- Joined texts: NulJ. Each has its own head line. No condition beyond those that its theorems state. -/
import Derived.Test.YtlmfdmaoakckgaaJ18
set_option linter.unusedVariables false

/- nulls.Join: its parts. -/
namespace Go.Proofs.Ytlmfdmaoakckgaa
open Go.RowKit

def onV (b : Bool) : Val := ⟨!b, 0, ⟨#[]⟩⟩
def onFn : Value := .func (.func 48) #[] #[]
set_option maxHeartbeats 400000 in
theorem onFn_any (w : World) (b : Bool) :
    Calls Try.prog 48 #[.bool b] w fun e w' => e = .returned (.agg #[.bool (!b), .int .i64 0, .string ⟨#[]⟩]) ∧ Below w.heap.size w w' := by
  go_enter Try.func48, Try.ntmps48
  go_wp2_with fail
  refine bodyPost_ret (v := .agg #[.bool (!b), .int .i64 0, .string ⟨#[]⟩]) (by simp [results, Try.results48, go_sem]; try rfl) rfl ?_
  exact ⟨rfl, (Below.refl w.heap.size w).alloc (Nat.le_refl _) _⟩

set_option maxRecDepth 100000 in
set_option maxHeartbeats 1000000 in
theorem eachOn_any (w : World) (A : Option Addr) (n cap : Nat) (l : List Bool) (hr : Rb w A n l) (hn : n ≤ 1000000) :
    Calls Try.prog 47 #[.slice A n cap, onFn] w (OwnOutV w (l.map onV)) := by
  have HR := Lib.hid hr; have HN := Lib.hid hr.len
  clear hr
  unfold onFn
  go_enter Try.func47, Try.ntmps47
  go_wp2_with fail
  go_loopw [5, 10] (fun v i wr => ∃ j : Nat, j ≤ n ∧ i = .int .i64 j ∧ Hid (wr.ownsRow w.heap.size 42 3 v j (cellsV ((l.take j).map onV))) ∧ Hid (Below w.heap.size w wr)) (fun _ i _ => n - (intOf i).toNat)
  case atStart => exact ⟨0, by omega, rfl, Lib.hid (World.ownsRow_nil _ _ _ _), Below.refl _ _⟩
  case round =>
    obtain ⟨j, hj, rfl, ho, hb⟩ := hrel
    by_cases hlt : j < n
    · obtain ⟨b, o, hA, hbl, hc⟩ := HR.out.at_ hlt
      subst hA
      have g1 := (hb.out.cell (p := ⟨b, o + j, none⟩) hbl).trans hc
      have ht := Lib.hid (takeB_snoc l j (by rw [HN.out]; exact hlt))
      clear hc
      generalize l.getD j false = x at *
      go_wp2_with fail
      refine (onFn_any _ x).mono ?_; rintro e w2 ⟨rfl, hb2⟩
      have HB2 := Lib.hid hb2
      have HO2 := Lib.hid (own_below ho.out HB2.out)
      have HW2 := Lib.hid (on hb.out HB2.out)
      have hz2 := HW2.out.size
      clear hb2
      go_wp2_with (at_builtin; refine wpList_val _ rfl _ _ rfl w.heap.size _ j _ rfl (own_below HO2.out ((Below.refl _ _).alloc (Nat.le_refl _) _)) _ 1 1 [onV x] rfl (rv_one_at rfl) (by omega) (by simp; omega) ?_; intro G c w3 hown hgr hcc)
      have HOWN := Lib.hid hown; have HNB := Lib.hid (push_ HW2.out (Nat.le_refl _) HO2.out hgr)
      clear hown hgr
      go_wp2_with fail
      go_roundw
      case rel =>
        refine ⟨j + 1, by omega, by go_num, ?_, HNB⟩
        have h := HOWN.out
        rw [ht.out, List.map_append]
        exact Lib.hid h
      case measure => simp [intOf] <;> omega
    · obtain rfl : j = n := by omega
      obtain ⟨G, c, rfl⟩ := own_form ho.out
      go_wp2_with fail
      go_ret
      have h := ho.out
      rw [List.take_of_length_le (by rw [HN.out]; omega)] at h
      exact ⟨_, _, _, rfl, h, hb.out⟩

set_option maxRecDepth 100000 in
set_option maxHeartbeats 1000000 in
theorem indexFalse_any (w : World) (A : Option Addr) (n cap : Nat) (l : List Bool) (hr : Rb w A n l) (hn : n ≤ 1000000) :
    Calls Try.prog 64 #[.slice A n cap, .bool false] w fun e w' => (∃ k : Int, e = .returned (.int .i64 k) ∧ Hid ((decide (0 ≤ k)) = l.any (fun b => !b))) ∧ w = w' := by
  have HR := Lib.hid hr; have HN := Lib.hid hr.len
  clear hr
  go_enter Try.func64, Try.ntmps64
  go_wp2_with fail
  go_loopw [5, 8] (fun _ i wr => ∃ j : Nat, j ≤ n ∧ i = .int .i64 j ∧ Hid (∀ q, q < j → l.getD q false = true) ∧ Hid (wr = w)) (fun _ i _ => n - (intOf i).toNat)
  case atStart => exact ⟨0, by omega, rfl, Lib.hid (fun q h => absurd h (by omega)), rfl⟩
  case round =>
    obtain ⟨j, hj, rfl, hz, hw⟩ := hrel
    obtain rfl := hw.out
    by_cases hlt : j < n
    · obtain ⟨b, o, hA, hbl, hc⟩ := HR.out.at_ hlt
      subst hA
      obtain ⟨x, hx⟩ : ∃ x, x = l.getD j false := ⟨_, rfl⟩
      rw [← hx] at hc
      have HX := Lib.hid hx
      clear hx
      cases x
      · go_wp2_with fail
        go_ret
        refine ⟨⟨_, rfl, Lib.hid ?_⟩, rfl⟩
        rw [decide_eq_true (by omega)]
        symm
        rw [List.any_eq_true]
        have hjl : j < l.length := by rw [HN.out]; exact hlt
        refine ⟨l[j], List.getElem_mem _, ?_⟩
        have := HX.out
        rw [List.getD, List.getElem?_eq_getElem hjl, Option.getD_some] at this
        rw [← this]; rfl
      · go_wp2_with fail
        go_roundw
        case rel =>
          refine ⟨j + 1, by omega, by go_num, Lib.hid (fun q h => ?_), Lib.hid trivial⟩
          rcases Nat.lt_or_ge q j with h3 | h3
          · exact hz.out q h3
          · obtain rfl : q = j := by omega
            exact HX.out.symm
        case measure => simp [intOf] <;> omega
    · go_wp2_with fail
      go_ret
      refine ⟨⟨_, rfl, Lib.hid ?_⟩, rfl⟩
      rw [decide_eq_false (by omega)]
      symm
      rw [List.any_eq_false]
      intro x hx
      obtain ⟨q, hq, rfl⟩ := List.getElem_of_mem hx
      have := hz.out q (by rw [HN.out] at hq; omega)
      rw [List.getD, List.getElem?_eq_getElem hq, Option.getD_some] at this
      rw [this]; simp
set_option maxHeartbeats 400000 in
theorem containsFalse_any (w : World) (A : Option Addr) (n cap : Nat) (l : List Bool) (hr : Rb w A n l) (hn : n ≤ 1000000) (r : Bool) (hl : l.any (fun b => !b) = r) :
    Calls Try.prog 46 #[.slice A n cap, .bool false] w fun e w' => e = .returned (.bool r) ∧ w = w' := by
  have HL := Lib.hid hl; clear hl
  go_enter Try.func46, Try.ntmps46
  go_wp2_with fail
  refine (indexFalse_any _ _ _ _ l hr hn).mono ?_; rintro e w' ⟨⟨k, rfl, hk⟩, rfl⟩
  go_wp2_with fail
  go_ret
  exact ⟨ret_bool (hk.out.trans HL.out), rfl⟩
end Go.Proofs.Ytlmfdmaoakckgaa

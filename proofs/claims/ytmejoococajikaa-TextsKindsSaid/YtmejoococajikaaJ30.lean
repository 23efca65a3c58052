/- Joined texts: GlCut. Each has its own head line. No condition beyond those that its theorems state. -/
import Derived.Test.YtmejoococajikaaJ12
set_option linter.unusedVariables false

/- rle.Cut and its reference. -/
namespace Go.Proofs.Ytmejoococajikaa
open Go.RowKit

def cutF (l : List Int) (e : Nat) : Nat → Nat → Nat
  | 0, _ => e
  | f + 1, n => if e ≤ n then e else if 5 ≤ sameL (l.drop n) then n else cutF l e f (n + 1)
/-- How many numbers are one run. -/
def cutL (l : List Int) : Nat := if 3 ≤ sameL l then min (sameL l) 512 else cutF l (min l.length 512) 513 1
theorem cutF_end (l : List Int) (e f n : Nat) (h : e ≤ n) : cutF l e f n = e := by
  cases f with
  | zero => rfl
  | succ f => rw [cutF, if_pos h]
theorem cutF_here (l : List Int) (e f n : Nat) (h : ¬ e ≤ n) (h5 : 5 ≤ sameL (l.drop n)) (hf : 1 ≤ f) : cutF l e f n = n := by
  cases f with
  | zero => omega
  | succ f => rw [cutF, if_neg h, if_pos h5]
theorem cutF_on (l : List Int) (e f n : Nat) (h : ¬ e ≤ n) (h5 : ¬ 5 ≤ sameL (l.drop n)) : cutF l e (f + 1) n = cutF l e f (n + 1) := by
  rw [cutF, if_neg h, if_neg h5]
theorem cutF_le (l : List Int) (e : Nat) : ∀ f n, (e ≤ n → e ≤ cutF l e f n) ∧ cutF l e f n ≤ e ∧ (1 ≤ n → 1 ≤ e → 1 ≤ cutF l e f n) := by
  intro f
  induction f with
  | zero => intro n; exact ⟨fun _ => Nat.le_refl _, Nat.le_refl _, fun _ h => h⟩
  | succ f ih =>
    intro n
    rw [cutF]
    split
    · exact ⟨fun _ => Nat.le_refl _, Nat.le_refl _, fun _ h => h⟩
    · split
      · exact ⟨fun h => by omega, by omega, fun h _ => h⟩
      · have := ih (n + 1)
        exact ⟨fun h => by omega, this.2.1, fun _ h => this.2.2 (by omega) h⟩
theorem cutL_range (l : List Int) (h : 1 ≤ l.length) : 1 ≤ cutL l ∧ cutL l ≤ l.length ∧ cutL l ≤ 512 := by
  have h1 := sameL_le l
  have h2 := cutF_le l (min l.length 512) 513 1
  unfold cutL
  split
  · omega
  · have := h2.2.2 (by omega) (by omega)
    omega
theorem getD_take {l : List Int} {k q : Nat} (h : q < k) : (l.take k).getD q 0 = l.getD q 0 := by simp [List.getD, List.getElem?_take_of_lt h]
theorem same_take (l : List Int) (k : Nat) (hk : 1 ≤ k) : sameL (l.take k) = min (sameL l) k := by
  have h1 := sameL_le l
  refine sameL_eq _ _ (by rw [List.length_take]; omega) (fun q hq => ?_) ?_
  · rw [getD_take (by omega), getD_take (by omega)]
    exact sameL_all l q (by omega)
  · rw [List.length_take]
    rcases Nat.lt_or_ge (sameL l) k with h2 | h2
    · rcases Nat.lt_or_ge (sameL l) l.length with h3 | h3
      · right
        rw [Nat.min_eq_left (by omega), getD_take h2, getD_take (by omega)]
        exact sameL_end l h3
      · left; omega
    · left; omega

set_option maxRecDepth 100000 in
set_option maxHeartbeats 1000000 in
theorem Cut_any (w : World) (A : Option Addr) (n cap : Nat) (l : List Int) (hr : Ri w .i64 A n l) (hcap : n ≤ cap) (_hm : cap ≤ 9223372036854775807) (hn : n ≤ 1000000) :
    Calls Try.prog 45 #[.slice A n cap] w fun e w' => e = .returned (.int .i64 (cutL l)) ∧ Below w.heap.size w w' := by
  have HR := Lib.hid hr; have HN := Lib.hid hr.len
  have hle := sameL_le l
  rw [HN.out] at hle
  clear hr
  have hcl : cutL l = if 3 ≤ sameL l then min (sameL l) 512 else cutF l (min n 512) 513 1 := by unfold cutL; rw [HN.out]
  have HSM := Lib.hid (sameN_any w A n cap l HR.out hn)
  obtain ⟨m, hme⟩ : ∃ m, m = sameL l := ⟨_, rfl⟩
  rw [← hme] at hle hcl HSM
  clear hme
  go_enter Try.func45, Try.ntmps45
  go_wp2_with fail
  refine HSM.out.mono ?_; rintro e w1 ⟨rfl, hb1⟩
  have HB1 := Lib.hid hb1; clear hb1
  by_cases h3 : 3 ≤ m
  · rw [if_pos h3] at hcl
    have HCL := Lib.hid hcl
    clear hcl
    by_cases h5 : m ≤ 512
    · have hmin : min m 512 = m := by omega
      go_wp2_with fail
      go_ret
      rw [HCL.out, hmin]
      exact ⟨rfl, HB1.out⟩
    · have hmin : min m 512 = 512 := by omega
      go_wp2_with fail
      go_ret
      rw [HCL.out, hmin]
      exact ⟨rfl, HB1.out⟩
  · rw [if_neg h3] at hcl
    obtain ⟨e, he⟩ : ∃ e, e = min n 512 := ⟨_, rfl⟩
    rw [← he] at hcl
    have HCL := Lib.hid hcl
    clear hcl
    go_upto_region 4 with fail
    go_cut [4] (fun v wx => v = .int .i64 e ∧ wx = w1)
    case first =>
      by_cases h5 : n ≤ 512
      · have hmin : e = n := by omega
        clear he
        subst hmin
        go_wp2_with fail
        go_meet
        exact ⟨rfl, rfl⟩
      · have hmin : e = 512 := by omega
        clear he
        subst hmin
        go_wp2_with fail
        go_meet
        exact ⟨rfl, rfl⟩
    case rest =>
      obtain ⟨rfl, hw⟩ := hcut
      obtain ⟨w1, hw1⟩ : ∃ w1, w1 = wc := ⟨_, rfl⟩
      subst hw
      have hen : e ≤ n ∧ e ≤ 512 := by omega
      clear he hw1
      go_wp2_with fail
      go_loopw [5] (fun i wr => ∃ j : Nat, 1 ≤ j ∧ j ≤ 513 ∧ i = .int .i64 j ∧ Hid (cutL l = cutF l e (514 - j) j) ∧ Hid (Below w.heap.size w wr)) (fun i _ => 513 - (intOf i).toNat)
      case atStart => exact ⟨1, by omega, by omega, rfl, HCL, HB1⟩
      case round =>
        obtain ⟨j, hj1, hj5, rfl, hcf, hb⟩ := hrel
        by_cases hlt : j < e
        · obtain ⟨b, o, hA, hbl, _⟩ := HR.out.all (by omega)
          subst hA
          have hrd := (HR.out.rest (i := j) (by omega) (fun _ => rfl)).below hb.out
          have HRD := Lib.hid hrd
          clear hrd
          obtain ⟨K, hK⟩ : ∃ K, K = min (n - j) 5 := ⟨_, rfl⟩
          have hst := same_take (l.drop j) K (by omega)
          have hsl := sameL_le (l.drop j)
          rw [List.length_drop, HN.out] at hsl
          have hS : sameL ((l.drop j).take K) = min (sameL (l.drop j)) 5 := by omega
          have HST := Lib.hid hS
          have HCF := Lib.hid (fun h5 => hcf.out.trans (cutF_here l e (514 - j) j (by omega) h5 (by omega)))
          have HCN := Lib.hid (fun h5 => hcf.out.trans ((show cutF l e (514 - j) j = cutF l e (513 - j + 1) j from by rw [show 513 - j + 1 = 514 - j from by omega]).trans (cutF_on l e (513 - j) j (by omega) h5)))
          have HCALL := Lib.hid (fun c0 (_ : K ≤ c0) => sameN_any _ _ K c0 ((l.drop j).take K) (HRD.out.first (m := K) (by omega)) (by omega))
          rw [HST.out] at HCALL
          clear hst hS hcf hsl
          generalize sameL (l.drop j) = S at *
          by_cases hE : n ≤ j + 5
          · obtain rfl : K = n - j := by omega
            have hc1 : j < cap := by omega
            clear hK
            go_wp2_with fail
            (try rw [show j + 5 - j = 5 from by omega])
            refine (HCALL.out _ (by omega)).mono ?_; rintro e w2 ⟨rfl, hb2⟩
            have HB2 := Lib.hid (on hb.out hb2)
            clear hb2
            by_cases h5 : 5 ≤ S
            · have hcl := HCF.out h5
              have HCL2 := Lib.hid hcl
              rw [show min S 5 = 5 from by omega]
              clear hcl
              go_wp2_with fail
              go_ret
              rw [HCL2.out]
              exact ⟨rfl, HB2.out⟩
            · have hcl := HCN.out h5
              have HCL2 := Lib.hid hcl
              rw [show min S 5 = S from by omega]
              have hd : ((S : Int) == 5) = false := by simp; omega
              have hd2 : ¬ (S : Int) = 5 := by omega
              clear hcl
              go_wp2_with fail
              go_roundw
              case rel => exact ⟨j + 1, by omega, by omega, by go_num, by rw [show 514 - (j + 1) = 513 - j from by omega]; exact HCL2, HB2⟩
              case measure => simp [intOf] <;> omega
          · obtain rfl : K = 5 := by omega
            have hc1 : j < cap := by omega
            clear hK
            go_wp2_with fail
            (try rw [show j + 5 - j = 5 from by omega])
            refine (HCALL.out _ (by omega)).mono ?_; rintro e w2 ⟨rfl, hb2⟩
            have HB2 := Lib.hid (on hb.out hb2)
            clear hb2
            by_cases h5 : 5 ≤ S
            · have hcl := HCF.out h5
              have HCL2 := Lib.hid hcl
              rw [show min S 5 = 5 from by omega]
              clear hcl
              go_wp2_with fail
              go_ret
              rw [HCL2.out]
              exact ⟨rfl, HB2.out⟩
            · have hcl := HCN.out h5
              have HCL2 := Lib.hid hcl
              rw [show min S 5 = S from by omega]
              have hd : ((S : Int) == 5) = false := by simp; omega
              have hd2 : ¬ (S : Int) = 5 := by omega
              clear hcl
              go_wp2_with fail
              go_roundw
              case rel => exact ⟨j + 1, by omega, by omega, by go_num, by rw [show 514 - (j + 1) = 513 - j from by omega]; exact HCL2, HB2⟩
              case measure => simp [intOf] <;> omega
        · have hcn := hcf.out.trans (cutF_end l e (514 - j) j (by omega))
          have HCN := Lib.hid hcn
          clear hcn
          go_wp2_with fail
          go_ret
          rw [HCN.out]
          exact ⟨rfl, hb.out⟩

end Go.Proofs.Ytmejoococajikaa

/- Joined texts: GlCut, PlainGp, PlainGs. Each has its own head line. No condition beyond those that its theorems state. -/
import Derived.Test.YtdhjcdkpbbbicaaJ15
import Derived.Test.YtdhjcdkpbbbicaaJ34
import Derived.Test.YtdhjcdkpbbbicaaJ28
set_option linter.unusedVariables false

/- rle.Cut and its reference. -/
namespace Go.Proofs.Ytdhjcdkpbbbicaa
open Go.RowKit

def cutF (l : List Int) (e : Nat) : Nat → Nat → Nat
  | 0, _ => e
  | f + 1, n => if e ≤ n then e else if 5 ≤ sameL (l.drop n) then n else cutF l e f (n + 1)
/-- How many numbers are one run. -/
def cutL (l : List Int) : Nat := if 3 ≤ sameL l then min (sameL l) 512 else cutF l (min l.length 512) 513 1
theorem cutF_end (l : List Int) (e f n : Nat) (h : e ≤ n) : cutF l e f n = e := by
  cases f with
  | zero => rfl
  | succ f => rw [cutF, if_pos h]
theorem cutF_here (l : List Int) (e f n : Nat) (h : ¬ e ≤ n) (h5 : 5 ≤ sameL (l.drop n)) (hf : 1 ≤ f) : cutF l e f n = n := by
  cases f with
  | zero => omega
  | succ f => rw [cutF, if_neg h, if_pos h5]
theorem cutF_on (l : List Int) (e f n : Nat) (h : ¬ e ≤ n) (h5 : ¬ 5 ≤ sameL (l.drop n)) : cutF l e (f + 1) n = cutF l e f (n + 1) := by
  rw [cutF, if_neg h, if_neg h5]
theorem cutF_le (l : List Int) (e : Nat) : ∀ f n, (e ≤ n → e ≤ cutF l e f n) ∧ cutF l e f n ≤ e ∧ (1 ≤ n → 1 ≤ e → 1 ≤ cutF l e f n) := by
  intro f
  induction f with
  | zero => intro n; exact ⟨fun _ => Nat.le_refl _, Nat.le_refl _, fun _ h => h⟩
  | succ f ih =>
    intro n
    rw [cutF]
    split
    · exact ⟨fun _ => Nat.le_refl _, Nat.le_refl _, fun _ h => h⟩
    · split
      · exact ⟨fun h => by omega, by omega, fun h _ => h⟩
      · have := ih (n + 1)
        exact ⟨fun h => by omega, this.2.1, fun _ h => this.2.2 (by omega) h⟩
theorem cutL_range (l : List Int) (h : 1 ≤ l.length) : 1 ≤ cutL l ∧ cutL l ≤ l.length ∧ cutL l ≤ 512 := by
  have h1 := sameL_le l
  have h2 := cutF_le l (min l.length 512) 513 1
  unfold cutL
  split
  · omega
  · have := h2.2.2 (by omega) (by omega)
    omega
theorem getD_take {l : List Int} {k q : Nat} (h : q < k) : (l.take k).getD q 0 = l.getD q 0 := by simp [List.getD, List.getElem?_take_of_lt h]
theorem same_take (l : List Int) (k : Nat) (hk : 1 ≤ k) : sameL (l.take k) = min (sameL l) k := by
  have h1 := sameL_le l
  refine sameL_eq _ _ (by rw [List.length_take]; omega) (fun q hq => ?_) ?_
  · rw [getD_take (by omega), getD_take (by omega)]
    exact sameL_all l q (by omega)
  · rw [List.length_take]
    rcases Nat.lt_or_ge (sameL l) k with h2 | h2
    · rcases Nat.lt_or_ge (sameL l) l.length with h3 | h3
      · right
        rw [Nat.min_eq_left (by omega), getD_take h2, getD_take (by omega)]
        exact sameL_end l h3
      · left; omega
    · left; omega

set_option maxRecDepth 100000 in
set_option maxHeartbeats 1000000 in
theorem Cut_any (w : World) (A : Option Addr) (n cap : Nat) (l : List Int) (hr : Ri w .i64 A n l) (hcap : n ≤ cap) (_hm : cap ≤ 9223372036854775807) (hn : n ≤ 1000000) :
    Calls Try.prog 15 #[.slice A n cap] w fun e w' => e = .returned (.int .i64 (cutL l)) ∧ Below w.heap.size w w' := by
  have HR := Lib.hid hr; have HN := Lib.hid hr.len
  have hle := sameL_le l
  rw [HN.out] at hle
  clear hr
  have hcl : cutL l = if 3 ≤ sameL l then min (sameL l) 512 else cutF l (min n 512) 513 1 := by unfold cutL; rw [HN.out]
  have HSM := Lib.hid (sameN_any w A n cap l HR.out hn)
  obtain ⟨m, hme⟩ : ∃ m, m = sameL l := ⟨_, rfl⟩
  rw [← hme] at hle hcl HSM
  clear hme
  go_enter Try.func15, Try.ntmps15
  go_wp2_with fail
  refine HSM.out.mono ?_; rintro e w1 ⟨rfl, hb1⟩
  have HB1 := Lib.hid hb1; clear hb1
  by_cases h3 : 3 ≤ m
  · rw [if_pos h3] at hcl
    have HCL := Lib.hid hcl
    clear hcl
    by_cases h5 : m ≤ 512
    · have hmin : min m 512 = m := by omega
      go_wp2_with fail
      go_ret
      rw [HCL.out, hmin]
      exact ⟨rfl, HB1.out⟩
    · have hmin : min m 512 = 512 := by omega
      go_wp2_with fail
      go_ret
      rw [HCL.out, hmin]
      exact ⟨rfl, HB1.out⟩
  · rw [if_neg h3] at hcl
    obtain ⟨e, he⟩ : ∃ e, e = min n 512 := ⟨_, rfl⟩
    rw [← he] at hcl
    have HCL := Lib.hid hcl
    clear hcl
    go_upto_region 4 with fail
    go_cut [4] (fun v wx => v = .int .i64 e ∧ wx = w1)
    case first =>
      by_cases h5 : n ≤ 512
      · have hmin : e = n := by omega
        clear he
        subst hmin
        go_wp2_with fail
        go_meet
        exact ⟨rfl, rfl⟩
      · have hmin : e = 512 := by omega
        clear he
        subst hmin
        go_wp2_with fail
        go_meet
        exact ⟨rfl, rfl⟩
    case rest =>
      obtain ⟨rfl, hw⟩ := hcut
      obtain ⟨w1, hw1⟩ : ∃ w1, w1 = wc := ⟨_, rfl⟩
      subst hw
      have hen : e ≤ n ∧ e ≤ 512 := by omega
      clear he hw1
      go_wp2_with fail
      go_loopw [5] (fun i wr => ∃ j : Nat, 1 ≤ j ∧ j ≤ 513 ∧ i = .int .i64 j ∧ Hid (cutL l = cutF l e (514 - j) j) ∧ Hid (Below w.heap.size w wr)) (fun i _ => 513 - (intOf i).toNat)
      case atStart => exact ⟨1, by omega, by omega, rfl, HCL, HB1⟩
      case round =>
        obtain ⟨j, hj1, hj5, rfl, hcf, hb⟩ := hrel
        by_cases hlt : j < e
        · obtain ⟨b, o, hA, hbl, _⟩ := HR.out.all (by omega)
          subst hA
          have hrd := (HR.out.rest (i := j) (by omega) (fun _ => rfl)).below hb.out
          have HRD := Lib.hid hrd
          clear hrd
          obtain ⟨K, hK⟩ : ∃ K, K = min (n - j) 5 := ⟨_, rfl⟩
          have hst := same_take (l.drop j) K (by omega)
          have hsl := sameL_le (l.drop j)
          rw [List.length_drop, HN.out] at hsl
          have hS : sameL ((l.drop j).take K) = min (sameL (l.drop j)) 5 := by omega
          have HST := Lib.hid hS
          have HCF := Lib.hid (fun h5 => hcf.out.trans (cutF_here l e (514 - j) j (by omega) h5 (by omega)))
          have HCN := Lib.hid (fun h5 => hcf.out.trans ((show cutF l e (514 - j) j = cutF l e (513 - j + 1) j from by rw [show 513 - j + 1 = 514 - j from by omega]).trans (cutF_on l e (513 - j) j (by omega) h5)))
          have HCALL := Lib.hid (fun c0 (_ : K ≤ c0) => sameN_any _ _ K c0 ((l.drop j).take K) (HRD.out.first (m := K) (by omega)) (by omega))
          rw [HST.out] at HCALL
          clear hst hS hcf hsl
          generalize sameL (l.drop j) = S at *
          by_cases hE : n ≤ j + 5
          · obtain rfl : K = n - j := by omega
            have hc1 : j < cap := by omega
            clear hK
            go_wp2_with fail
            (try rw [show j + 5 - j = 5 from by omega])
            refine (HCALL.out _ (by omega)).mono ?_; rintro e w2 ⟨rfl, hb2⟩
            have HB2 := Lib.hid (on hb.out hb2)
            clear hb2
            by_cases h5 : 5 ≤ S
            · have hcl := HCF.out h5
              have HCL2 := Lib.hid hcl
              rw [show min S 5 = 5 from by omega]
              clear hcl
              go_wp2_with fail
              go_ret
              rw [HCL2.out]
              exact ⟨rfl, HB2.out⟩
            · have hcl := HCN.out h5
              have HCL2 := Lib.hid hcl
              rw [show min S 5 = S from by omega]
              have hd : ((S : Int) == 5) = false := by simp; omega
              have hd2 : ¬ (S : Int) = 5 := by omega
              clear hcl
              go_wp2_with fail
              go_roundw
              case rel => exact ⟨j + 1, by omega, by omega, by go_num, by rw [show 514 - (j + 1) = 513 - j from by omega]; exact HCL2, HB2⟩
              case measure => simp [intOf] <;> omega
          · obtain rfl : K = 5 := by omega
            have hc1 : j < cap := by omega
            clear hK
            go_wp2_with fail
            (try rw [show j + 5 - j = 5 from by omega])
            refine (HCALL.out _ (by omega)).mono ?_; rintro e w2 ⟨rfl, hb2⟩
            have HB2 := Lib.hid (on hb.out hb2)
            clear hb2
            by_cases h5 : 5 ≤ S
            · have hcl := HCF.out h5
              have HCL2 := Lib.hid hcl
              rw [show min S 5 = 5 from by omega]
              clear hcl
              go_wp2_with fail
              go_ret
              rw [HCL2.out]
              exact ⟨rfl, HB2.out⟩
            · have hcl := HCN.out h5
              have HCL2 := Lib.hid hcl
              rw [show min S 5 = S from by omega]
              have hd : ((S : Int) == 5) = false := by simp; omega
              have hd2 : ¬ (S : Int) = 5 := by omega
              clear hcl
              go_wp2_with fail
              go_roundw
              case rel => exact ⟨j + 1, by omega, by omega, by go_num, by rw [show 514 - (j + 1) = 513 - j from by omega]; exact HCL2, HB2⟩
              case measure => simp [intOf] <;> omega
        · have hcn := hcf.out.trans (cutF_end l e (514 - j) j (by omega))
          have HCN := Lib.hid hcn
          clear hcn
          go_wp2_with fail
          go_ret
          rw [HCN.out]
          exact ⟨rfl, hb.out⟩

set_option maxRecDepth 100000 in
set_option maxHeartbeats 1000000 in
theorem refCut_any (w : World) (A : Option Addr) (n cap : Nat) (l : List Int) (hr : Ri w .i64 A n l) (hcap : n ≤ cap) (hn : n ≤ 1000000) :
    Calls Try.prog 16 #[.slice A n cap] w fun e w' => e = .returned (.int .i64 (cutL l)) ∧ Below w.heap.size w w' := by
  have HR := Lib.hid hr; have HN := Lib.hid hr.len
  have hle := sameL_le l
  rw [HN.out] at hle
  clear hr
  have hcl : cutL l = if 3 ≤ sameL l then min (sameL l) 512 else cutF l (min n 512) 513 1 := by unfold cutL; rw [HN.out]
  have HSM := Lib.hid (fun w' hb => refSameN_any w' A n cap l (HR.out.below hb) hn)
  obtain ⟨m, hme⟩ : ∃ m, m = sameL l := ⟨_, rfl⟩
  rw [← hme] at hle hcl HSM
  clear hme
  go_enter Try.func16, Try.ntmps16
  go_upto_region 1 with fail
  go_cut [11] (fun v wx => v = .bool (decide (3 ≤ m)) ∧ Hid (Below w.heap.size w wx))
  case first =>
    by_cases h0 : 0 < n
    · go_wp2_with fail
      refine (HSM.out _ (Below.refl _ _)).mono ?_; rintro e w1 ⟨rfl, hb1⟩
      have HB1 := Lib.hid hb1; clear hb1
      go_wp2_with fail
      go_meet
      exact ⟨by simp; omega, HB1⟩
    · go_wp2_with fail
      go_meet
      exact ⟨by simp; omega, Below.refl _ _⟩
  case rest =>
  obtain ⟨rfl, hb1⟩ := hcut
  by_cases h3 : 3 ≤ m
  · rw [if_pos h3] at hcl
    have HCL := Lib.hid hcl
    clear hcl
    rw [decide_eq_true h3]
    by_cases h5 : m ≤ 512
    · have hmin : min m 512 = m := by omega
      go_wp2_with fail
      refine (HSM.out _ hb1.out).mono ?_; rintro e w2 ⟨rfl, hb2⟩
      have HB2 := Lib.hid (on hb1.out hb2); clear hb2
      go_wp2_with fail
      go_ret
      rw [HCL.out, hmin]
      exact ⟨rfl, HB2.out⟩
    · have hmin : min m 512 = 512 := by omega
      go_wp2_with fail
      refine (HSM.out _ hb1.out).mono ?_; rintro e w2 ⟨rfl, hb2⟩
      have HB2 := Lib.hid (on hb1.out hb2); clear hb2
      go_wp2_with fail
      go_ret
      rw [HCL.out, hmin]
      exact ⟨rfl, HB2.out⟩
  · rw [if_neg h3] at hcl
    rw [decide_eq_false h3]
    obtain ⟨e, he⟩ : ∃ e, e = min n 512 := ⟨_, rfl⟩
    rw [← he] at hcl
    have HCL := Lib.hid hcl
    have HE := Lib.hid he
    have hen : e ≤ n ∧ e ≤ 512 := by omega
    clear hcl he
    go_wp2_with fail
    go_loopw [3] (fun i wr => ∃ j : Nat, 1 ≤ j ∧ j ≤ 513 ∧ i = .int .i64 j ∧ Hid (cutL l = cutF l e (514 - j) j) ∧ Hid (Below w.heap.size w wr)) (fun i _ => 513 - (intOf i).toNat)
    case atStart => exact ⟨1, by omega, by omega, rfl, HCL, hb1⟩
    case round =>
      obtain ⟨j, hj1, hj5, rfl, hcf, hb⟩ := hrel
      by_cases hlt : j < e
      · obtain ⟨b, o, hA, hbl, _⟩ := HR.out.all (by omega)
        subst hA
        have hrd := (HR.out.rest (i := j) (by omega) (fun _ => rfl)).below hb.out
        have HCF := Lib.hid (fun h5 => hcf.out.trans (cutF_here l e (514 - j) j (by omega) h5 (by omega)))
        have HCN := Lib.hid (fun h5 => hcf.out.trans ((show cutF l e (514 - j) j = cutF l e (513 - j + 1) j from by rw [show 513 - j + 1 = 514 - j from by omega]).trans (cutF_on l e (513 - j) j (by omega) h5)))
        have HCALL := Lib.hid (fun c0 (_ : n - j ≤ c0) => refSameN_any _ _ (n - j) c0 (l.drop j) hrd (by omega))
        clear hcf hrd
        have hj2 : j < n ∧ j < 512 := by omega
        obtain ⟨hj3, hj4⟩ := hj2
        have hc1 : j < cap := by omega
        generalize sameL (l.drop j) = S at *
        go_wp2_with fail
        refine (HCALL.out _ (by omega)).mono ?_; rintro e w2 ⟨rfl, hb2⟩
        have HB2 := Lib.hid (on hb.out hb2)
        clear hb2
        by_cases h5 : 5 ≤ S
        · have HCL2 := Lib.hid (HCF.out h5)
          go_wp2_with fail
          go_ret
          rw [HCL2.out]
          exact ⟨rfl, HB2.out⟩
        · have HCL2 := Lib.hid (HCN.out h5)
          go_wp2_with fail
          go_roundw
          case rel => exact ⟨j + 1, by omega, by omega, by go_num, by rw [show 514 - (j + 1) = 513 - j from by omega]; exact HCL2, HB2⟩
          case measure => simp [intOf] <;> omega
      · have hcn := hcf.out.trans (cutF_end l e (514 - j) j (by omega))
        have HCN := Lib.hid hcn
        have he := HE.out
        clear hcn
        by_cases h1 : j < n
        · have h2 : ¬ j < 512 := by omega
          obtain rfl : e = 512 := by omega
          clear he HE
          have h6 : ¬ n ≤ 512 := by omega
          go_wp2_with fail
          go_ret
          rw [HCN.out]
          exact ⟨rfl, hb.out⟩
        · by_cases h6 : n ≤ 512
          · obtain rfl : e = n := by omega
            clear he HE
            go_wp2_with fail
            go_ret
            rw [HCN.out]
            exact ⟨rfl, hb.out⟩
          · obtain rfl : e = 512 := by omega
            clear he HE
            go_wp2_with fail
            go_ret
            rw [HCN.out]
            exact ⟨rfl, hb.out⟩
end Go.Proofs.Ytdhjcdkpbbbicaa

/- Rle: plain: how long a run is; all runs. -/
namespace Go.Proofs.Ytdhjcdkpbbbicaa
open Go.RowKit

theorem putD_len (l : List Int) (s : Bool) (hu : I64 l) (p : List Int) (h : putD l s = (p, 0)) : 2 ≤ p.length ∧ p.length ≤ 2 + 8 * l.length := by
  unfold putD at h
  split at h
  · injection h with _ h; cases h
  · rename_i hb
    injection h with h _
    subst h
    obtain ⟨u, e, hpl, hcase⟩ := plainL_cases l s
    rw [hpl] at hb ⊢
    rcases hcase with ⟨rfl, hul, hu6⟩ | ⟨rfl, rfl⟩
    · obtain ⟨k, hk, hk1, hk2, hroom⟩ := most_room u (hu6 hu)
      have hb2 : ¬ l.length < 1 ∧ ¬ 512 < l.length := by
        refine ⟨fun h => hb (.inr (.inl h)), fun h => hb (.inr (.inr h))⟩
      obtain ⟨p, hp, hpl2⟩ := packR_ok u k (by omega) (by omega) hroom
      have h64 := mostBits_le u (hu6 hu)
      have hw := wOf_code (mostBits u) (by omega) (by omega)
      have hh : (headR 1 (wCode (wClosest (mostBits u))) l.length).length = 2 := by
        unfold headR
        rw [if_pos (by omega)]
        rfl
      rw [List.length_append]
      dsimp only
      rw [hh, hk, hp]
      dsimp only
      rw [hpl2, hul]
      have : l.length * k ≤ l.length * 64 := Nat.mul_le_mul_left _ hk2
      omega
    · exact absurd (.inl (by decide)) hb
theorem putD_ok (l : List Int) (s : Bool) (h : badRun l s = false) : ∃ p, putD l s = (p, 0) := by
  unfold badRun at h
  simp only [Bool.or_eq_false_iff, decide_eq_false_iff_not] at h
  obtain ⟨pu, pe, hpl, hpc⟩ := plain_err l s
  unfold putD
  rw [hpl]
  rcases hpc with ⟨rfl, _⟩ | ⟨rfl, hneg⟩
  · rw [if_neg (by rintro (h1 | h1 | h1); exact absurd rfl h1; exact h.1.1 h1; exact h.1.2 h1)]
    exact ⟨_, rfl⟩
  · rw [hneg] at h
    cases h.2
theorem putD_no (l : List Int) (s : Bool) (h : badRun l s = true) : putD l s = ([], 1) := by
  obtain ⟨pu, pe, hpl, hpc⟩ := plain_err l s
  unfold putD
  rw [hpl]
  rw [if_pos]
  unfold badRun at h
  rcases hpc with ⟨rfl, hn⟩ | ⟨rfl, hneg⟩
  · rw [hn, Bool.or_false] at h
    simp only [Bool.or_eq_true, decide_eq_true_eq] at h
    exact .inr h
  · exact .inl (show (1 : Int) ≠ 0 by decide)
theorem putDe_no (l : List Int) (s : Bool) (h : badRun l s = true) : putDe l s = ([], 1) := by
  unfold putDe
  rw [if_pos]
  unfold badRun at h
  unfold badDe
  simp only [Bool.or_eq_true, decide_eq_true_eq, Bool.and_eq_true, Bool.not_eq_true'] at h
  rcases h with (h | h) | h
  · exact .inl (by omega)
  · exact .inr (.inl h)
  · exact .inr (.inr (.inl h))
theorem cand_two (l : List Int) (s : Bool) (hu : I64 l) (c : Nat) (p : List Int) (h : candR l s c = (p, 0)) : 2 ≤ p.length := by
  unfold candR at h
  split at h
  · unfold timesR at h
    split at h
    · unfold putR at h
      split at h
      · injection h with _ h; cases h
      · injection h with h _; subst h
        rw [List.length_cons, hiB_len]
        unfold longN
        omega
    · injection h with _ h; cases h
  · split at h
    · exact (putD_len l s hu p h).1
    · split at h
      · unfold putDe at h
        split at h
        · injection h with _ h; cases h
        · injection h with h _; subst h
          simp only [List.length_append]
          have h1 := (vput_len 9 (unsN (dAt l 0) true)).1
          have h2 := (vput_len 9 (unsN (l.getD 0 0) s)).1
          unfold vput
          omega
      · unfold putPa at h
        split at h
        · injection h with _ h; cases h
        · injection h with h _; subst h
          simp only [List.length_append, twoPa, List.length_cons]
          omega
theorem shortR_ne (o : List Int) (q : List Int × Int) (hq : q.2 = 0 → 1 ≤ q.1.length) (h : o ≠ []) : shortR o q ≠ [] ∧ (shortR o q).length ≤ o.length := by
  unfold shortR
  split
  · rename_i h1
    have := hq h1.1
    refine ⟨fun h2 => by rw [h2] at this; simp at this, ?_⟩
    rcases h1.2 with h2 | h2
    · exact absurd h2 h
    · omega
  · exact ⟨h, Nat.le_refl _⟩
theorem shortR_to (o p : List Int) (hq : 1 ≤ p.length) : shortR o (p, 0) ≠ [] ∧ (shortR o (p, 0)).length ≤ p.length := by
  unfold shortR
  split
  · refine ⟨fun h2 => ?_, Nat.le_refl _⟩
    dsimp only at h2
    rw [h2] at hq
    simp at hq
  · rename_i h
    dsimp only at h
    exact ⟨fun h1 => h ⟨rfl, .inl h1⟩, Nat.le_of_not_lt fun h1 => h ⟨rfl, .inr h1⟩⟩
theorem runK_le (l : List Int) (s : Bool) (hu : I64 l) (j : Nat) (p : List Int) (h : candR l s j = (p, 0)) : ∀ d, runK l s (j + 1 + d) ≠ [] ∧ (runK l s (j + 1 + d)).length ≤ p.length := by
  intro d
  induction d with
  | zero =>
    show shortR (runK l s j) (candR l s j) ≠ [] ∧ (shortR (runK l s j) (candR l s j)).length ≤ p.length
    rw [h]
    exact shortR_to _ _ (cand_ne l s hu j p h)
  | succ d ih =>
    have h1 := shortR_ne (runK l s (j + 1 + d)) (candR l s (j + 1 + d)) (fun he => cand_ne l s hu (j + 1 + d) _ (by rw [← he])) ih.1
    exact ⟨h1.1, Nat.le_trans h1.2 ih.2⟩
theorem runK_is (l : List Int) (s : Bool) : ∀ c, runK l s c = [] ∨ ∃ j, j < c ∧ candR l s j = (runK l s c, 0) := by
  intro c
  induction c with
  | zero => exact .inl rfl
  | succ c ih =>
    have h : runK l s (c + 1) = shortR (runK l s c) (candR l s c) := rfl
    unfold shortR at h
    split at h
    · rename_i h1
      right
      refine ⟨c, Nat.lt_succ_self c, ?_⟩
      rw [h, ← h1.1]
    · rw [h]
      rcases ih with h2 | ⟨j, hj, h2⟩
      · exact .inl h2
      · exact .inr ⟨j, by omega, h2⟩
/-- A run is what one of the kinds is. -/
theorem run_ok (l : List Int) (s : Bool) (hu : I64 l) (h : badRun l s = false) : ∃ q, runR l s = (q, 0) ∧ 2 ≤ q.length ∧ q.length ≤ 2 + 8 * l.length ∧ (∃ j, j < 34 ∧ candR l s j = (q, 0)) ∧ ∀ j p, j < 34 → candR l s j = (p, 0) → q.length ≤ p.length := by
  have h0 : runR l s = (runK l s 34, 0) := by unfold runR; rw [h]; rfl
  obtain ⟨p, hp⟩ := putD_ok l s h
  have hc : candR l s 1 = (p, 0) := by unfold candR; rw [if_neg (by omega), if_pos rfl]; exact hp
  have h1 := runK_le l s hu 1 p hc 32
  have h2 := putD_len l s hu p hp
  rcases runK_is l s 34 with h3 | ⟨j, hj, h3⟩
  · exact absurd h3 h1.1
  · refine ⟨_, h0, cand_two l s hu j _ h3, Nat.le_trans h1.2 h2.2, ⟨j, hj, h3⟩, fun j p hj hp => ?_⟩
    have h4 := (runK_le l s hu j p hp (33 - j)).2
    rwa [show j + 1 + (33 - j) = 34 from by omega] at h4
theorem run_cases (l : List Int) (s : Bool) (hu : I64 l) : runR l s = ([], 1) ∨ ∃ q, runR l s = (q, 0) ∧ q.length ≤ 2 + 8 * l.length := by
  cases h : badRun l s
  · obtain ⟨q, h1, _, h2, _⟩ := run_ok l s hu h
    exact .inr ⟨q, h1, h2⟩
  · left
    unfold runR
    rw [h]
    rfl
/-- All runs. -/
def putF (s : Bool) : Nat → List Int → List Int → List Int × Int
  | 0, out, _ => (out, 0)
  | f + 1, out, l => if l.length = 0 then (out, 0)
    else if (runR (l.take (cutL l)) s).2 ≠ 0 then ([], (runR (l.take (cutL l)) s).2)
    else putF s f (out ++ (runR (l.take (cutL l)) s).1) (l.drop (cutL l))
def putGl (l : List Int) (s : Bool) : List Int × Int := if 4096 < l.length then ([], 3) else putF s (l.length + 1) [] l
end Go.Proofs.Ytdhjcdkpbbbicaa

/- Rle: plain: numbers that rise by the same are one short run. -/
namespace Go.Proofs.Ytdhjcdkpbbbicaa
open Go.RowKit

def apL (y d : Int) (n : Nat) : List Int := (List.range n).map fun i : Nat => y + (i : Int) * d
theorem apL_len (y d : Int) (n : Nat) : (apL y d n).length = n := by simp [apL]
theorem apL_snoc (y d : Int) (n : Nat) : apL y d (n + 1) = apL y d n ++ [y + (n : Int) * d] := by simp [apL, List.range_succ]
theorem apL_at (y d : Int) (n i : Nat) (h : i < n) : (apL y d n).getD i 0 = y + (i : Int) * d := by
  simp [apL, List.getD, List.getElem?_map, List.getElem?_range h]
theorem mul_room (i : Nat) (d : Int) (hi : i ≤ 258) (h0 : 0 ≤ d) (h1 : d ≤ 1024) : 0 ≤ (i : Int) * d ∧ (i : Int) * d ≤ 264192 := by
  refine ⟨Int.mul_nonneg (by omega) h0, ?_⟩
  have h2 : (i : Int) * d ≤ 258 * 1024 := Int.mul_le_mul (by omega) h1 h0 (by omega)
  omega
theorem apL_i64 (y d : Int) (n : Nat) (hn : n ≤ 259) (hy0 : -562949953421312 ≤ y) (hy1 : y < 562949953421312) (h0 : 0 ≤ d) (h1 : d ≤ 1024) : I64 (apL y d n) := by
  intro z hz
  obtain ⟨i, hi, rfl⟩ := List.mem_map.1 hz
  have := List.mem_range.1 hi
  have := mul_room i d (by omega) h0 h1
  omega
theorem apL_dAt (y d : Int) (n j : Nat) (h : j + 1 < n) : dAt (apL y d n) j = d := by
  unfold dAt
  rw [apL_at y d n _ h, apL_at y d n _ (by omega), Int.natCast_add, Int.add_mul]
  omega
theorem vputF_short (k : Nat) : ∀ (f x : Nat), x < 2 ^ (7 * (k + 1)) → (vputF f x).length ≤ k + 1 := by
  induction k with
  | zero =>
    intro f x hx
    cases f with
    | zero => simp [vputF]
    | succ f => simp only [vputF]; rw [if_pos (by simpa using hx)]; simp
  | succ k ih =>
    intro f x hx
    cases f with
    | zero => simp [vputF]
    | succ f =>
      simp only [vputF]
      split
      · simp
      · have h2 : x / 128 < 2 ^ (7 * (k + 1)) := by
          rw [Nat.div_lt_iff_lt_mul (by omega), show (128 : Nat) = 2 ^ 7 from rfl, ← Nat.pow_add]
          rwa [show 7 * (k + 1) + 7 = 7 * (k + 1 + 1) from by omega]
        have := ih f (x / 128) h2
        rw [List.length_cons]; omega
theorem apL_put (y d : Int) (n : Nat) (hn : 3 ≤ n) (hn2 : n ≤ 258) (hy0 : -562949953421312 ≤ y) (hy1 : y < 562949953421312) (h0 : 0 ≤ d) (h1 : d ≤ 1024) :
    ∃ p, putDe (apL y d n) true = (p, 0) ∧ p.length ≤ 12 := by
  have ha : absI d = d := by unfold absI; rw [if_neg (by omega)]
  have hok : okD (apL y d n) (n - 1) = true := by
    refine List.all_eq_true.2 fun j hj => ?_
    have hj2 := List.mem_range.1 hj
    unfold okAt
    rw [apL_dAt y d n j (by omega), apL_dAt y d n 0 (by omega), ha, decide_eq_true (show d < 9223372036854775808 by omega), beq_self_eq_true, Bool.or_true, Bool.and_true]
  have hsm : sameD (apL y d n) (n - 1) = true := by
    refine List.all_eq_true.2 fun j hj => ?_
    have hj2 := List.mem_range.1 hj
    rw [apL_dAt y d n j (by omega), apL_dAt y d n 0 (by omega)]
    exact decide_eq_true rfl
  have hbd : ¬ badDe (apL y d n) true := by
    unfold badDe
    rw [apL_len, hok]
    rintro (h | h | ⟨h, _⟩ | h)
    · omega
    · omega
    · cases h
    · cases h
  have htd : tailDe (apL y d n) = [] := by unfold tailDe; rw [apL_len, hsm]; rfl
  have hwd : widthDe (apL y d n) = 0 := by unfold widthDe; rw [apL_len, hsm]; rfl
  unfold putDe
  rw [if_neg hbd]
  refine ⟨_, rfl, ?_⟩
  rw [htd, hwd, show (packR [] 0).1 = [] from rfl, List.append_nil, List.length_append, List.length_append, apL_dAt y d n 0 (by omega), apL_at y d n 0 (by omega)]
  have l1 := head_len 3 (codeDe (apL y d n)) (apL y d n).length
  have l2 : (vput (unsN (y + ((0 : Nat) : Int) * d) true)).length ≤ 7 + 1 := by
    refine vputF_short 7 9 _ ?_
    unfold unsN zig
    rw [show ((0 : Nat) : Int) * d = 0 from by simp, if_pos rfl]
    have : (2 : Nat) ^ (7 * (7 + 1)) = 72057594037927936 := by decide
    rw [this]
    split <;> omega
  have l3 : (vput (unsN d true)).length ≤ 1 + 1 := by
    refine vputF_short 1 9 _ ?_
    unfold unsN zig
    rw [if_pos rfl]
    have : (2 : Nat) ^ (7 * (1 + 1)) = 16384 := by decide
    rw [this]
    split <;> omega
  omega
theorem apL_run (y d : Int) (n : Nat) (hn : 3 ≤ n) (hn2 : n ≤ 258) (hy0 : -562949953421312 ≤ y) (hy1 : y < 562949953421312) (h0 : 0 ≤ d) (h1 : d ≤ 1024) :
    ∃ q, runR (apL y d n) true = (q, 0) ∧ q.length ≤ 12 := by
  obtain ⟨p, hp, hpl⟩ := apL_put y d n hn hn2 hy0 hy1 h0 h1
  have hb : badRun (apL y d n) true = false := by
    unfold badRun
    rw [apL_len, decide_eq_false (by omega), decide_eq_false (by omega)]
    rfl
  obtain ⟨q, hq, _, _, _, hqs⟩ := run_ok (apL y d n) true (apL_i64 y d n (by omega) hy0 hy1 h0 h1) hb
  have := hqs 2 p (by omega) (by unfold candR; rw [if_neg (by omega), if_neg (by omega), if_pos rfl]; exact hp)
  exact ⟨q, hq, by omega⟩
theorem apL_cut (y : Int) (n : Nat) (hn : 3 ≤ n) (hn2 : n ≤ 512) : cutL (apL y 0 n) = n := by
  have h : sameL (apL y 0 n) = n := by
    refine sameL_eq _ _ (by rw [apL_len]; exact Nat.le_refl _) (fun q hq => ?_) (.inl (apL_len y 0 n).symm)
    rw [apL_at y 0 n q hq, apL_at y 0 n 0 (by omega)]
    simp
  unfold cutL
  rw [h, if_pos hn, Nat.min_eq_left hn2]
theorem apL_one (y : Int) (n : Nat) (hn : 3 ≤ n) (hn2 : n ≤ 258) (hy0 : -562949953421312 ≤ y) (hy1 : y < 562949953421312) :
    ∃ q, putGl (apL y 0 n) true = (q, 0) ∧ q.length ≤ 12 := by
  obtain ⟨q, hq, hql⟩ := apL_run y 0 n hn hn2 hy0 hy1 (by omega) (by omega)
  refine ⟨q, ?_, hql⟩
  have hl := apL_len y 0 n
  unfold putGl
  rw [if_neg (by omega), putF, if_neg (by omega), apL_cut y n hn (by omega), List.take_of_length_le (by omega), hq, if_neg (by simp), List.drop_of_length_le (by omega), hl]
  cases n with
  | zero => omega
  | succ n => rw [putF]; exact if_pos rfl
theorem and_low (a : Int) (m : Nat) (hm : m < 4294967296) : 0 ≤ bits BinOp.and IntKind.i64 a m ∧ bits BinOp.and IntKind.i64 a m ≤ m := by
  have h : (BitVec.ofInt 64 a &&& BitVec.ofInt 64 (m : Int)).toNat ≤ m := by
    rw [BitVec.toNat_and]
    refine Nat.le_trans Nat.and_le_right ?_
    rw [BitVec.toNat_ofInt]
    omega
  show 0 ≤ IntKind.i64.wrap ((BitVec.ofInt 64 a &&& BitVec.ofInt 64 (m : Int)).toNat : Int) ∧ IntKind.i64.wrap ((BitVec.ofInt 64 a &&& BitVec.ofInt 64 (m : Int)).toNat : Int) ≤ m
  rw [IntWalk.i64_in _ (by omega)]
  omega
end Go.Proofs.Ytdhjcdkpbbbicaa

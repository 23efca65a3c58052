/- Joined texts: PlainGp, GlK, GlRun, GlPut, GlRefPut. Each has its own head line. No condition beyond those that its theorems state. -/
import Derived.Deep.DeepCutAuto
import Derived.Lib.SliceRun
import Derived.Deep.RegionLaw
import Derived.Test.YtbmooemlekckbaaGreatDoorJ35
import Derived.Test.YtbmooemlekckbaaGreatDoorJ20
import Derived.Test.YtbmooemlekckbaaGreatDoorJ27
import Derived.Test.YtbmooemlekckbaaGreatDoorJ05
import Derived.Test.YtbmooemlekckbaaGreatDoorJ04
import Derived.Test.YtbmooemlekckbaaGreatDoorJ33
import Derived.Test.YtbmooemlekckbaaGreatDoorJ02
set_option linter.unusedVariables false

/- Rle: plain: how long a run is; all runs. -/
namespace Go.Proofs.YtbmooemlekckbaaGreatDoor
open Go.RowKit

theorem putD_len (l : List Int) (s : Bool) (hu : I64 l) (p : List Int) (h : putD l s = (p, 0)) : 2 ≤ p.length ∧ p.length ≤ 2 + 8 * l.length := by
  unfold putD at h
  split at h
  · injection h with _ h; cases h
  · rename_i hb
    injection h with h _
    subst h
    obtain ⟨u, e, hpl, hcase⟩ := plainL_cases l s
    rw [hpl] at hb ⊢
    rcases hcase with ⟨rfl, hul, hu6⟩ | ⟨rfl, rfl⟩
    · obtain ⟨k, hk, hk1, hk2, hroom⟩ := most_room u (hu6 hu)
      have hb2 : ¬ l.length < 1 ∧ ¬ 512 < l.length := by
        refine ⟨fun h => hb (.inr (.inl h)), fun h => hb (.inr (.inr h))⟩
      obtain ⟨p, hp, hpl2⟩ := packR_ok u k (by omega) (by omega) hroom
      have h64 := mostBits_le u (hu6 hu)
      have hw := wOf_code (mostBits u) (by omega) (by omega)
      have hh : (headR 1 (wCode (wClosest (mostBits u))) l.length).length = 2 := by
        unfold headR
        rw [if_pos (by omega)]
        rfl
      rw [List.length_append]
      dsimp only
      rw [hh, hk, hp]
      dsimp only
      rw [hpl2, hul]
      have : l.length * k ≤ l.length * 64 := Nat.mul_le_mul_left _ hk2
      omega
    · exact absurd (.inl (by decide)) hb
theorem putD_ok (l : List Int) (s : Bool) (h : badRun l s = false) : ∃ p, putD l s = (p, 0) := by
  unfold badRun at h
  simp only [Bool.or_eq_false_iff, decide_eq_false_iff_not] at h
  obtain ⟨pu, pe, hpl, hpc⟩ := plain_err l s
  unfold putD
  rw [hpl]
  rcases hpc with ⟨rfl, _⟩ | ⟨rfl, hneg⟩
  · rw [if_neg (by rintro (h1 | h1 | h1); exact absurd rfl h1; exact h.1.1 h1; exact h.1.2 h1)]
    exact ⟨_, rfl⟩
  · rw [hneg] at h
    cases h.2
theorem putD_no (l : List Int) (s : Bool) (h : badRun l s = true) : putD l s = ([], 1) := by
  obtain ⟨pu, pe, hpl, hpc⟩ := plain_err l s
  unfold putD
  rw [hpl]
  rw [if_pos]
  unfold badRun at h
  rcases hpc with ⟨rfl, hn⟩ | ⟨rfl, hneg⟩
  · rw [hn, Bool.or_false] at h
    simp only [Bool.or_eq_true, decide_eq_true_eq] at h
    exact .inr h
  · exact .inl (show (1 : Int) ≠ 0 by decide)
theorem putDe_no (l : List Int) (s : Bool) (h : badRun l s = true) : putDe l s = ([], 1) := by
  unfold putDe
  rw [if_pos]
  unfold badRun at h
  unfold badDe
  simp only [Bool.or_eq_true, decide_eq_true_eq, Bool.and_eq_true, Bool.not_eq_true'] at h
  rcases h with (h | h) | h
  · exact .inl (by omega)
  · exact .inr (.inl h)
  · exact .inr (.inr (.inl h))
theorem cand_two (l : List Int) (s : Bool) (hu : I64 l) (c : Nat) (p : List Int) (h : candR l s c = (p, 0)) : 2 ≤ p.length := by
  unfold candR at h
  split at h
  · unfold timesR at h
    split at h
    · unfold putR at h
      split at h
      · injection h with _ h; cases h
      · injection h with h _; subst h
        rw [List.length_cons, hiB_len]
        unfold longN
        omega
    · injection h with _ h; cases h
  · split at h
    · exact (putD_len l s hu p h).1
    · split at h
      · unfold putDe at h
        split at h
        · injection h with _ h; cases h
        · injection h with h _; subst h
          simp only [List.length_append]
          have h1 := (vput_len 9 (unsN (dAt l 0) true)).1
          have h2 := (vput_len 9 (unsN (l.getD 0 0) s)).1
          unfold vput
          omega
      · unfold putPa at h
        split at h
        · injection h with _ h; cases h
        · injection h with h _; subst h
          simp only [List.length_append, twoPa, List.length_cons]
          omega
theorem shortR_ne (o : List Int) (q : List Int × Int) (hq : q.2 = 0 → 1 ≤ q.1.length) (h : o ≠ []) : shortR o q ≠ [] ∧ (shortR o q).length ≤ o.length := by
  unfold shortR
  split
  · rename_i h1
    have := hq h1.1
    refine ⟨fun h2 => by rw [h2] at this; simp at this, ?_⟩
    rcases h1.2 with h2 | h2
    · exact absurd h2 h
    · omega
  · exact ⟨h, Nat.le_refl _⟩
theorem shortR_to (o p : List Int) (hq : 1 ≤ p.length) : shortR o (p, 0) ≠ [] ∧ (shortR o (p, 0)).length ≤ p.length := by
  unfold shortR
  split
  · refine ⟨fun h2 => ?_, Nat.le_refl _⟩
    dsimp only at h2
    rw [h2] at hq
    simp at hq
  · rename_i h
    dsimp only at h
    exact ⟨fun h1 => h ⟨rfl, .inl h1⟩, Nat.le_of_not_lt fun h1 => h ⟨rfl, .inr h1⟩⟩
theorem runK_le (l : List Int) (s : Bool) (hu : I64 l) (j : Nat) (p : List Int) (h : candR l s j = (p, 0)) : ∀ d, runK l s (j + 1 + d) ≠ [] ∧ (runK l s (j + 1 + d)).length ≤ p.length := by
  intro d
  induction d with
  | zero =>
    show shortR (runK l s j) (candR l s j) ≠ [] ∧ (shortR (runK l s j) (candR l s j)).length ≤ p.length
    rw [h]
    exact shortR_to _ _ (cand_ne l s hu j p h)
  | succ d ih =>
    have h1 := shortR_ne (runK l s (j + 1 + d)) (candR l s (j + 1 + d)) (fun he => cand_ne l s hu (j + 1 + d) _ (by rw [← he])) ih.1
    exact ⟨h1.1, Nat.le_trans h1.2 ih.2⟩
theorem runK_is (l : List Int) (s : Bool) : ∀ c, runK l s c = [] ∨ ∃ j, j < c ∧ candR l s j = (runK l s c, 0) := by
  intro c
  induction c with
  | zero => exact .inl rfl
  | succ c ih =>
    have h : runK l s (c + 1) = shortR (runK l s c) (candR l s c) := rfl
    unfold shortR at h
    split at h
    · rename_i h1
      right
      refine ⟨c, Nat.lt_succ_self c, ?_⟩
      rw [h, ← h1.1]
    · rw [h]
      rcases ih with h2 | ⟨j, hj, h2⟩
      · exact .inl h2
      · exact .inr ⟨j, by omega, h2⟩
/-- A run is what one of the kinds is. -/
theorem run_ok (l : List Int) (s : Bool) (hu : I64 l) (h : badRun l s = false) : ∃ q, runR l s = (q, 0) ∧ 2 ≤ q.length ∧ q.length ≤ 2 + 8 * l.length ∧ (∃ j, j < 34 ∧ candR l s j = (q, 0)) ∧ ∀ j p, j < 34 → candR l s j = (p, 0) → q.length ≤ p.length := by
  have h0 : runR l s = (runK l s 34, 0) := by unfold runR; rw [h]; rfl
  obtain ⟨p, hp⟩ := putD_ok l s h
  have hc : candR l s 1 = (p, 0) := by unfold candR; rw [if_neg (by omega), if_pos rfl]; exact hp
  have h1 := runK_le l s hu 1 p hc 32
  have h2 := putD_len l s hu p hp
  rcases runK_is l s 34 with h3 | ⟨j, hj, h3⟩
  · exact absurd h3 h1.1
  · refine ⟨_, h0, cand_two l s hu j _ h3, Nat.le_trans h1.2 h2.2, ⟨j, hj, h3⟩, fun j p hj hp => ?_⟩
    have h4 := (runK_le l s hu j p hp (33 - j)).2
    rwa [show j + 1 + (33 - j) = 34 from by omega] at h4
theorem run_cases (l : List Int) (s : Bool) (hu : I64 l) : runR l s = ([], 1) ∨ ∃ q, runR l s = (q, 0) ∧ q.length ≤ 2 + 8 * l.length := by
  cases h : badRun l s
  · obtain ⟨q, h1, _, h2, _⟩ := run_ok l s hu h
    exact .inr ⟨q, h1, h2⟩
  · left
    unfold runR
    rw [h]
    rfl
/-- All runs. -/
def putF (s : Bool) : Nat → List Int → List Int → List Int × Int
  | 0, out, _ => (out, 0)
  | f + 1, out, l => if l.length = 0 then (out, 0)
    else if (runR (l.take (cutL l)) s).2 ≠ 0 then ([], (runR (l.take (cutL l)) s).2)
    else putF s f (out ++ (runR (l.take (cutL l)) s).1) (l.drop (cutL l))
def putGl (l : List Int) (s : Bool) : List Int × Int := if 4096 < l.length then ([], 3) else putF s (l.length + 1) [] l
end Go.Proofs.YtbmooemlekckbaaGreatDoor

/- Rle: the kinds of runs: a row of functions. -/
namespace Go.Proofs.YtbmooemlekckbaaGreatDoor
open Go.RowKit

/-- The function of kind j. -/
def IsKind (w : World) (j : Nat) (v : Value) : Prop :=
  (j = 0 ∧ v = .func (.func 77) #[] #[]) ∨ (j = 1 ∧ v = .func (.func 78) #[] #[]) ∨ (j = 2 ∧ v = .func (.func 79) #[] #[]) ∨
    ∃ c h : Nat, j = c + 3 ∧ v = .func (.func 80) #[] #[.pointer (some ⟨h, 0, none⟩)] ∧ Ri w .i64 (some ⟨h, 0, none⟩) 1 [(c : Int)]
theorem IsKind.one {w : World} {j : Nat} {v : Value} (h : IsKind w j v) : v.oneCell' = true := by
  rcases h with ⟨_, rfl⟩ | ⟨_, rfl⟩ | ⟨_, rfl⟩ | ⟨_, _, _, rfl, _⟩ <;> rfl
theorem IsKind.map {w w' : World} {j : Nat} {v : Value} (h : IsKind w j v) (hb : ∀ (c h : Nat), Ri w .i64 (some ⟨h, 0, none⟩) 1 [(c : Int)] → Ri w' .i64 (some ⟨h, 0, none⟩) 1 [(c : Int)]) : IsKind w' j v := by
  rcases h with h | h | h | ⟨c, a, h1, h2, h3⟩
  · exact .inl h
  · exact .inr (.inl h)
  · exact .inr (.inr (.inl h))
  · exact .inr (.inr (.inr ⟨c, a, h1, h2, hb c a h3⟩))
/-- All kinds up to n. -/
def KindL (w : World) (cs : List Value) (n : Nat) : Prop := cs.length = n ∧ ∀ j v, cs[j]? = some v → IsKind w j v
theorem KindL.map {w w' : World} {cs : List Value} {n : Nat} (h : KindL w cs n) (hb : ∀ (c h : Nat), Ri w .i64 (some ⟨h, 0, none⟩) 1 [(c : Int)] → Ri w' .i64 (some ⟨h, 0, none⟩) 1 [(c : Int)]) : KindL w' cs n :=
  ⟨h.1, fun j v hv => (h.2 j v hv).map hb⟩
theorem KindL.one {w : World} {cs : List Value} {n : Nat} (h : KindL w cs n) : ∀ u ∈ cs, u.oneCell' = true := by
  intro u hu
  obtain ⟨j, hj, rfl⟩ := List.mem_iff_getElem.1 hu
  exact (h.2 j _ (List.getElem?_eq_getElem hj)).one
theorem KindL.snoc {w : World} {cs : List Value} {n c : Nat} (h : KindL w cs n) (hn : n = c + 3) (b : Nat) (hr : Ri w .i64 (some ⟨b, 0, none⟩) 1 [(c : Int)]) :
    KindL w (cs ++ [.func (.func 80) #[] #[.pointer (some ⟨b, 0, none⟩)]]) (n + 1) := by
  refine ⟨by simp [h.1], fun j v hv => ?_⟩
  rcases Nat.lt_or_ge j n with h1 | h1
  · rw [List.getElem?_append_left (by rw [h.1]; exact h1)] at hv
    exact h.2 j v hv
  · rw [List.getElem?_append_right (by rw [h.1]; exact h1), h.1] at hv
    have hj : j - n = 0 := by
      rcases Nat.eq_zero_or_pos (j - n) with h2 | h2
      · exact h2
      · rw [List.getElem?_eq_none (by simp; omega)] at hv; cases hv
    rw [hj] at hv
    injection hv with hv
    exact .inr (.inr (.inr ⟨c, b, by omega, hv.symm, hr⟩))
theorem info_kind : (Tryz.prog.info? 71).map (fun i => (i.zero, i.size, i.bytes)) = some (some (.agg #[.nilFunc]), 1, 8) := by kernel_rfl
/-- append onto a row of the call's own, kinds; where the new slice lies. -/
theorem wpList_kind (w : World) {ops : Array Oper} {rest : List Oper} {o : Oper} {a : Act} {Q : Exit → Act → World → Prop} (hgd : o.guard = none) (s x : Operand)
    (ho : o.op = .call { callee := .builtin .append, args := #[s, x], argTypes := #[68, 68] })
    (base : Nat) (v : Value) (n : Nat) (l : List Value) (hs : a.eval s = v) (hown : w.ownsRow base 71 1 v n l)
    (A : Option Addr) (m c : Nat) (l2 : List Value) (hx : a.eval x = .slice A m c) (hr : Rd w 1 A m l2) (h1 : ∀ u ∈ l2, u.oneCell' = true) (hb : n + m ≤ 2000000000) (hbase : base ≤ w.heap.size)
    (h : ∀ G cap w', w'.ownsRow base 71 1 (.slice G (n + m) cap) (n + m) (l ++ l2) → w.grownBy w' v.ownBlock → wpList Tryz.prog ops Q rest (a.put o.dst (.slice G (n + m) cap)) w') : wpList Tryz.prog ops Q (o :: rest) a w := by
  obtain ⟨i0, hi, hz0, hz1, hz2⟩ := info_parts info_kind
  refine wpList_append_any w hgd s x 68 ho base 71 i0 _ 1 8 Tryz.underlying68 hi hz0 hz1 hz2 rfl (by decide) v n _ hs hown A m c _ hx hr h1 (by unfold maxLen; omega) (by omega) hbase ?_
  intro G cap w' h1 h2 h3 h4
  exact h G cap w' h1 h2
theorem KindL.grown2 {w w' : World} {cs ds : List Value} {n m B : Nat} {t : TypeId} {v : Value} (h : KindL w ds m) (hn : 1 ≤ n) (ho : w.ownsRow B t 1 v n cs) (hp : ds[0]? = cs[0]?) (hg : w.grownBy w' v.ownBlock) : KindL w' ds m := by
  obtain ⟨G, c0, rfl⟩ := own_form ho
  obtain ⟨b, o, hA, hbl, hc⟩ := (Rd.of_own ho).2 (by omega)
  subst hA
  have hlen := ho.1
  have e0 := List.getElem?_eq_getElem (l := cs) (i := 0) (by omega)
  have k0 := hc 0 _ e0
  have f0 := h.2 0 _ (hp.trans e0)
  rcases f0 with ⟨_, f0⟩ | ⟨h0, _⟩ | ⟨h0, _⟩ | ⟨_, _, h0, _⟩
  · rw [f0] at k0
    refine h.map fun c a hr => hr.grown hg (fun g' b' o' h1 h2 => ?_)
    injection h2 with h2; injection h2 with h2 h3
    subst h2
    intro e
    have h4 : g' = b := by simp [Value.ownBlock] at h1; exact h1.symm
    have h5 : o = 0 := by
      rcases ho.2 with ⟨_, hz⟩ | ⟨g2, cap2, cur, hv, _⟩
      · omega
      · injection hv with hv; injection hv with hv; injection hv
    obtain ⟨b2, o2, h6, _, h7⟩ := hr.all (by omega)
    injection h6 with h6; injection h6 with h6 h8
    have h9 := h7 0 (by omega)
    subst h5
    rw [← h6, ← h8, ← e, h4, k0] at h9
    cases h9
  · cases h0
  · cases h0
  · cases h0

def KindsOut (w : World) (e : Ending) (w' : World) : Prop :=
  ∃ b o c cs, e = .returned (.slice (some ⟨b, o, none⟩) 34 c) ∧ 34 ≤ c ∧ b < w'.heap.size ∧ KindL w' cs 34 ∧ (∀ j v, cs[j]? = some v → w'.cell? ⟨b, o + j, none⟩ = some v) ∧ Below w.heap.size w w'
set_option maxRecDepth 100000 in
set_option maxHeartbeats 1000000 in
theorem kinds_any (w : World) : Calls Tryz.prog 52 #[] w (KindsOut w) := by
  go_enter Tryz.func52, Tryz.ntmps52
  go_wp2_with fail
  go_loopw [1, 7] (fun v i wr => ∃ (j : Nat) (cs : List Value), j ≤ 31 ∧ i = .int .i64 j ∧ Hid (KindL wr cs (j + 3)) ∧ Hid (wr.ownsRow w.heap.size 71 1 v (j + 3) cs) ∧ Hid (Below w.heap.size w wr)) (fun _ i _ => 31 - (intOf i).toNat)
  case atStart =>
    refine ⟨0, [.func (.func 77) #[] #[], .func (.func 78) #[] #[], .func (.func 79) #[] #[]], by omega, rfl, ⟨rfl, fun j v hv => ?_⟩, ⟨by simp, .inr ⟨w.heap.size, 3, _, rfl, Nat.le_refl _, Blk.new w _ _, Nat.le_refl _, by unfold maxLen; omega, rfl, by simp⟩⟩, (Below.refl _ _).alloc (Nat.le_refl _) _⟩
    match j, hv with
    | 0, hv => injection hv with hv; exact .inl ⟨rfl, hv.symm⟩
    | 1, hv => injection hv with hv; exact .inr (.inl ⟨rfl, hv.symm⟩)
    | 2, hv => injection hv with hv; exact .inr (.inr (.inl ⟨rfl, hv.symm⟩))
    | j + 3, hv => rw [List.getElem?_eq_none (by simp)] at hv; cases hv
  case round =>
    obtain ⟨j, cs, hj, rfl, hk, ho, hb⟩ := hrel
    have hz := hb.out.size
    by_cases hlt : j < 31
    · obtain ⟨G, c, rfl⟩ := own_form ho.out
      go_upto_region 5 with fail
      have hk1 : Hid (KindL (wr.alloc (.cells #[.int .i64 (j : Int)] 3)) cs (j + 3)) := hk.out.map fun c a h => h.alloc _
      have hbox : Hid (Ri (wr.alloc (.cells #[.int .i64 (j : Int)] 3)) .i64 (some ⟨wr.heap.size, 0, none⟩) 1 [(j : Int)]) := Lib.hid (Rd.one _ _ _)
      have ho1 : Hid ((wr.alloc (.cells #[.int .i64 (j : Int)] 3)).ownsRow w.heap.size 71 1 (.slice G (j + 3) c) (j + 3) cs) := own_below ho.out ((Below.refl _ _).alloc (Nat.le_refl _) _)
      have hb1 : Hid (Below w.heap.size w (wr.alloc (.cells #[.int .i64 (j : Int)] 3))) := hb.out.alloc (by omega) _
      have hz1 : (wr.alloc (.cells #[.int .i64 (j : Int)] 3)).heap.size = wr.heap.size + 1 := by simp
      obtain ⟨H, hH⟩ : ∃ H, H = wr.heap.size := ⟨_, rfl⟩
      rw [← hH] at hbox hz hz1 ⊢
      obtain ⟨w1, hw1⟩ : ∃ w1, w1 = wr.alloc (.cells #[.int .i64 (j : Int)] 3) := ⟨_, rfl⟩
      rw [← hw1] at hbox hk1 ho1 hb1 hz1 ⊢
      have HZ1 := Lib.hid hz1
      have hz2 : w.heap.size ≤ w1.heap.size := by omega
      clear hw1 hH hk ho hb hz1
      go_wp2_with (at_builtin; refine wpList_kind _ rfl _ _ rfl w.heap.size _ (j + 3) cs rfl (own_below ho1.out ((Below.refl _ _).alloc (Nat.le_refl _) _)) _ 1 1 [.func (.func 80) #[] #[.pointer (some ⟨H, 0, none⟩)]] rfl (Rd.one _ _ _) (by simp [Value.oneCell']) (by omega) (by simp; omega) ?_; intro G2 c2 w7 hown hgr)
      have hk2 : KindL (w1.alloc (.cells #[.func (.func 80) #[] #[.pointer (some ⟨H, 0, none⟩)]] 71)) (cs ++ [.func (.func 80) #[] #[.pointer (some ⟨H, 0, none⟩)]]) (j + 3 + 1) := (hk1.out.map fun c a h => h.alloc _).snoc rfl H (hbox.out.alloc _)
      have hk3 := KindL.grown2 hk2 (by omega) (own_below ho1.out ((Below.refl _ _).alloc (Nat.le_refl _) _)) (by simp [hk1.out.1]) hgr
      have HK3 := Lib.hid hk3; have HO3 := Lib.hid hown; have HB3 := Lib.hid (push_ hb1.out (Nat.le_refl _) ho1.out hgr)
      clear hk2 hk3 hown hgr
      go_wp2_with fail
      go_roundw
      case rel => exact ⟨j + 1, _, by omega, by go_num, HK3, HO3, HB3⟩
      case measure => simp [intOf] <;> omega
    · obtain rfl : j = 31 := by omega
      obtain ⟨G, c, rfl⟩ := own_form ho.out
      go_wp2_with fail
      go_ret
      obtain ⟨b, o, hA, hbl, hc⟩ := (Rd.of_own ho.out).2 (by omega)
      subst hA
      exact ⟨b, o, c, cs, rfl, (own_cap ho.out).1, hbl, hk.out, hc, hb.out⟩
end Go.Proofs.YtbmooemlekckbaaGreatDoor

/- rle.Run. -/
namespace Go.Proofs.YtbmooemlekckbaaGreatDoor
open Go.RowKit

/-- The shortest run so far: none, or bytes. -/
def OutV (w : World) (v : Value) (p : List Int) : Prop :=
  (p = [] ∧ v = .slice none 0 0) ∨ ∃ b o n c, v = .slice (some ⟨b, o, none⟩) n c ∧ 1 ≤ n ∧ Sl w .u8 (some ⟨b, o, none⟩) n c p
theorem OutV.below {w w' : World} {v : Value} {p : List Int} (h : OutV w v p) (hb : Below w.heap.size w w') : OutV w' v p := by
  rcases h with h | ⟨b, o, n, c, h1, h2, h3⟩
  · exact .inl h
  · exact .inr ⟨b, o, n, c, h1, h2, h3.below hb⟩
theorem OutV.sl {w : World} {v : Value} {p : List Int} (h : OutV w v p) : ∃ G n c, v = .slice G n c ∧ Sl w .u8 G n c p := by
  rcases h with ⟨h1, h2⟩ | ⟨b, o, n, c, h1, h2, h3⟩
  · subst h1; exact ⟨_, _, _, h2, Sl.nil _ _⟩
  · exact ⟨_, _, _, h1, h3⟩

theorem store_fn (w : World) (kf : FuncId) (caps : Array Value) (t : TypeId) : Sem.run Tryz.prog (store ⟨w.heap.size, 0, none⟩ (.func (.func kf) #[] caps)) (w.alloc (.cells #[.nilFunc] t)) = .ok () (w.alloc (.cells #[.func (.func kf) #[] caps] t)) := by
  rw [run_store Tryz.prog _ _ _ _ rfl]
  simp [World.setCell_alloc_new]
set_option maxRecDepth 100000 in
set_option maxHeartbeats 1000000 in
theorem kindFn_any (w : World) (h c : Nat) (hb : Ri w .i64 (some ⟨h, 0, none⟩) 1 [(c : Int)]) (A : Option Addr) (n cap : Nat) (l : List Int) (hr : Ri w .i64 A n l) (hu : I64 l) (hcap : n ≤ cap) (hm : cap ≤ 9223372036854775807) (hn : n ≤ 100000) (s : Bool) (r : List Int) (er : Int) (hl : putPa l (wOf c) s = (r, er)) :
    Calls Tryz.prog 80 #[.slice A n cap, .bool s, .pointer (some ⟨h, 0, none⟩)] w (BytesErr w r er) := by
  obtain ⟨b2, o2, e, hlt, h7⟩ := hb.all (by omega)
  injection e with e; injection e with e1 e2; subst e1 e2
  have g0 : w.cell? ⟨h, 0, none⟩ = some (.int .i64 (c : Int)) := h7 0 (by omega)
  have HR := Lib.hid hr; have HU := Lib.hid hu; have HL := Lib.hid hl
  have hwr := wOf_range (c : Int)
  clear hr hu hl h7 hb
  go_enter Tryz.func80, Tryz.ntmps80
  go_wp2_with fail
  refine (Of_any _ _).mono ?_; rintro e w2 ⟨rfl, hb2⟩
  have HB2 := Lib.hid hb2; clear hb2
  go_wp2_with fail
  refine (PPut_any _ _ _ _ l (HR.out.below HB2.out) HU.out hcap hm hn (wOf c) (by unfold I64x; omega) s r er HL.out).mono ?_; rintro e w3 ⟨G, n3, c3, rfl, hs3, hb3⟩
  go_wp2_with fail
  go_ret2
  exact ⟨_, _, _, rfl, hs3, on HB2.out hb3⟩

set_option maxRecDepth 100000 in
set_option maxHeartbeats 2000000 in
theorem Run_any (w : World) (A : Option Addr) (n cap : Nat) (l : List Int) (hr : Ri w .i64 A n l) (hu : I64 l) (hcap : n ≤ cap) (hm : cap ≤ 9223372036854775807) (hn : n ≤ 100000) (s : Bool) (r : List Int) (er : Int) (hl : runR l s = (r, er)) :
    Calls Tryz.prog 35 #[.slice A n cap, .bool s] w (BytesErr w r er) := by
  have HR := Lib.hid hr; have HU := Lib.hid hu; have HN := Lib.hid hr.len; have HL := Lib.hid hl
  clear hr hu hl
  have qT : ∀ (w : World) (a : Option Addr) (n c n' c' : Nat), (binOp .eql 25 (.slice a n c) (.slice none n' c')).run Tryz.prog w = .ok (.bool a.isNone) w := fun w a n c n' c' => Lib.run_eql_slice_nil w _ _ a n c n' c' Tryz.underlying25
  go_enter Tryz.func35, Tryz.ntmps35
  go_upto_region 1 with fail
  go_cut [27] (fun v wx => v = .bool (badRun l s) ∧ wx = w)
  case first =>
    have hpre : badRun l s = (decide (n < 1) || decide (512 < n) || (!s && l.any fun y => decide (y < 0))) := by unfold badRun; rw [HN.out]
    by_cases h1 : n < 1
    · have HP : Hid (badRun l s = true) := Lib.hid (by rw [hpre, decide_eq_true h1]; rfl)
      clear hpre
      go_wp2_with fail
      go_meet
      exact ⟨by rw [HP.out], rfl⟩
    · by_cases h2 : 512 < n
      · have HP : Hid (badRun l s = true) := Lib.hid (by rw [hpre, decide_eq_true h2]; simp)
        clear hpre
        go_wp2_with fail
        go_meet
        exact ⟨by rw [HP.out], rfl⟩
      · have hmin := minL_neg l (by rw [HN.out]; omega)
        obtain ⟨M, hM⟩ : ∃ M, M = minL l := ⟨_, rfl⟩
        rw [← hM] at hmin
        have HM := Lib.hid hM
        clear hM
        have hpre3 : badRun l s = (!s && decide (M < 0)) := by
          rw [hpre, decide_eq_false h1, decide_eq_false h2]
          have h3 : (l.any fun y => decide (y < 0)) = decide (M < 0) := by
            cases h4 : (l.any fun y => decide (y < 0))
            · exact (decide_eq_false (fun h => by rw [hmin.1 h] at h4; cases h4)).symm
            · exact (decide_eq_true (hmin.2 h4)).symm
          rw [h3]; rfl
        have HP := Lib.hid hpre3
        clear hpre hmin hpre3
        cases s
        · go_wp2_with fail
          refine (Min_any _ _ _ _ l HR.out (by omega) (by omega)).mono ?_; rintro e w' ⟨rfl, rfl⟩
          rw [← HM.out]
          go_wp2_with fail
          go_meet
          exact ⟨by rw [HP.out, decide_eq_false (show ¬ (n : Int) < 1 by omega), decide_eq_false (show ¬ 512 < (n : Int) by omega)]; rfl, rfl⟩
        · go_wp2_with fail
          go_meet
          exact ⟨by rw [HP.out, decide_eq_false (show ¬ (n : Int) < 1 by omega), decide_eq_false (show ¬ 512 < (n : Int) by omega)]; rfl, rfl⟩
  case rest =>
    obtain ⟨rfl, hw⟩ := hcut
    subst hw
    cases hpre : badRun l s
    · have hL : Hid (runK l s 34 = r ∧ (0 : Int) = er) := by
        have h := HL.out
        unfold runR at h
        rw [hpre, if_neg (by simp)] at h
        injection h with h1 h2
        exact ⟨h1, h2⟩
      have hfa : 1 ≤ n ∧ n ≤ 512 := by
        unfold badRun at hpre
        simp only [Bool.or_eq_false_iff, decide_eq_false_iff_not, HN.out] at hpre
        omega
      clear HL hpre
      go_wp2_with fail
      refine (kinds_any _).mono ?_; rintro e w1 ⟨bk, ok, ck, cs, rfl, hck, hbk, hkl, hcs, hb1⟩
      have HKL := Lib.hid hkl; have HCS := Lib.hid hcs; have HB1 := Lib.hid hb1
      clear hkl hcs hb1
      go_wp2_with fail
      go_loopw [6, 30] (fun v i wr => ∃ j : Nat, j ≤ 34 ∧ i = .int .i64 j ∧ Hid (OutV wr v (runK l s j)) ∧ Hid (Below w1.heap.size w1 wr)) (fun _ i _ => 34 - (intOf i).toNat)
      case atStart => exact ⟨0, by omega, rfl, Lib.hid (.inl ⟨rfl, rfl⟩), Below.refl _ _⟩
      case round =>
        obtain ⟨j, hj, rfl, hov, hb⟩ := hrel
        by_cases hlt : j < 34
        · obtain ⟨v, hv⟩ : ∃ v, cs[j]? = some v := ⟨_, List.getElem?_eq_getElem (by rw [HKL.out.1]; exact hlt)⟩
          have hkind := HKL.out.2 j v hv
          have hcv := (hb.out.cell (p := ⟨bk, ok + j, none⟩) hbk).trans (HCS.out j v hv)
          have HRR := Lib.hid ((HR.out.below HB1.out).below hb.out)
          have hz := hb.out.size
          obtain ⟨kf, caps, rfl⟩ : ∃ kf caps, v = .func (.func kf) #[] caps := by
            rcases hkind with ⟨_, h⟩ | ⟨_, h⟩ | ⟨_, h⟩ | ⟨_, _, _, h, _⟩ <;> exact ⟨_, _, h⟩
          have HKIND := Lib.hid hkind
          clear hv hkind
          have hst : Sem.run Tryz.prog (store ⟨wr.heap.size, 0, none⟩ (.func (.func kf) #[] caps)) (wr.alloc (.cells #[.nilFunc] 71)) = .ok () (wr.alloc (.cells #[.func (.func kf) #[] caps] 71)) := store_fn wr kf caps _
          go_upto_region 7 with fail
          clear hst
          have hbk2 := hb.out.alloc (by omega) (.cells #[.func (.func kf) #[] caps] 71)
          have HBA := Lib.hid hbk2
          have hz2 := hbk2.size
          have c0 : (wr.alloc (.cells #[.func (.func kf) #[] caps] 71)).cell? ⟨wr.heap.size, 0, none⟩ = some (.func (.func kf) #[] caps) := by simp
          have HRA := Lib.hid (HRR.out.alloc (.cells #[.func (.func kf) #[] caps] 71))
          have hova : OutV (wr.alloc (.cells #[.func (.func kf) #[] caps] 71)) _ _ := hov.out.below ((Below.refl _ _).alloc (Nat.le_refl _) _)
          have HOV := Lib.hid hova
          obtain ⟨H, hH⟩ : ∃ H, H = wr.heap.size := ⟨_, rfl⟩
          rw [← hH] at c0 ⊢
          obtain ⟨wa, hwa⟩ : ∃ wa, wa = wr.alloc (.cells #[.func (.func kf) #[] caps] 71) := ⟨_, rfl⟩
          rw [← hwa] at HBA hz2 c0 HRA HOV ⊢
          clear hwa hH hbk2 hova hov hb HRR hcv hz
          go_cut [9, 10] (fun v9 v10 wx => ∃ (p : List Int) (er : Int) (G : Option Addr) (n4 c4 : Nat), candR l s j = (p, er) ∧ v9 = .slice G n4 c4 ∧ v10 = .int .i64 er ∧ Hid (Sl wx .u8 G n4 c4 p) ∧ Hid (Below wa.heap.size wa wx))
          case first =>
            have hcand : candR l s j = if j = 0 then timesR l s else if j = 1 then putD l s else if j = 2 then putDe l s else putPa l (wOf ((j - 3 : Nat) : Int)) s := rfl
            obtain ⟨p0, e0, hpe⟩ : ∃ p0 e0, candR l s j = (p0, e0) := ⟨_, _, rfl⟩
            have HPE := Lib.hid hpe
            rw [hcand] at hpe
            clear hcand
            rcases HKIND.out with ⟨rfl, h⟩ | ⟨rfl, h⟩ | ⟨rfl, h⟩ | ⟨cc, hh, rfl, h, hbox⟩
            · cases h
              rw [if_pos rfl] at hpe
              have HC := Lib.hid hpe
              clear hpe
              go_wp2_with fail
              refine (times_any _ _ _ _ l HRA.out HU.out (by omega) (by omega) s p0 e0 HC.out).mono ?_; rintro e w4 ⟨G4, n4, c4, rfl, hs4, hb4⟩
              have HS4 := Lib.hid hs4; have HB4 := Lib.hid hb4
              clear hs4 hb4
              go_wp2_with fail
              go_meet
              exact ⟨_, _, _, _, _, HPE.out, rfl, rfl, HS4, HB4⟩
            · cases h
              rw [if_neg (by decide), if_pos rfl] at hpe
              have HC := Lib.hid hpe
              clear hpe
              go_wp2_with fail
              refine (DPut_any _ _ _ _ l HRA.out HU.out (by omega) s p0 e0 HC.out).mono ?_; rintro e w4 ⟨G4, n4, c4, rfl, hs4, hb4⟩
              have HS4 := Lib.hid hs4; have HB4 := Lib.hid hb4
              clear hs4 hb4
              go_wp2_with fail
              go_meet
              exact ⟨_, _, _, _, _, HPE.out, rfl, rfl, HS4, HB4⟩
            · cases h
              rw [if_neg (by decide), if_neg (by decide), if_pos rfl] at hpe
              have HC := Lib.hid hpe
              clear hpe
              go_wp2_with fail
              refine (DePut_any _ _ _ _ l HRA.out HU.out hcap hm hn s p0 e0 HC.out).mono ?_; rintro e w4 ⟨G4, n4, c4, rfl, hs4, hb4⟩
              have HS4 := Lib.hid hs4; have HB4 := Lib.hid hb4
              clear hs4 hb4
              go_wp2_with fail
              go_meet
              exact ⟨_, _, _, _, _, HPE.out, rfl, rfl, HS4, HB4⟩
            · cases h
              rw [if_neg (by omega), if_neg (by omega), if_neg (by omega), Nat.add_sub_cancel] at hpe
              have HC := Lib.hid hpe
              have HBX := Lib.hid (hbox.below HBA.out)
              clear hpe hbox
              go_wp2_with fail
              refine (kindFn_any _ hh cc HBX.out _ _ _ l HRA.out HU.out hcap hm hn s p0 e0 HC.out).mono ?_; rintro e w4 ⟨G4, n4, c4, rfl, hs4, hb4⟩
              have HS4 := Lib.hid hs4; have HB4 := Lib.hid hb4
              clear hs4 hb4
              go_wp2_with fail
              go_meet
              exact ⟨_, _, _, _, _, HPE.out, rfl, rfl, HS4, HB4⟩
          case rest =>
            obtain ⟨p, e, G4, n4, c4, hc, rfl, rfl, hs4, hb4⟩ := hcut
            have hstep : runK l s (j + 1) = shortR (runK l s j) (p, e) := by rw [← hc]; rfl
            have HNE := Lib.hid (fun (h : e = 0) => cand_ne l s HU.out j p (by rw [hc, h]))
            have HO2 := Lib.hid (HOV.out.below hb4.out)
            have HB2 := Lib.hid (on HBA.out hb4.out)
            have hn4 := hs4.out.1.len
            clear hc hb4 c0 HKIND
            unfold shortR at hstep
            by_cases he : e = 0
            · subst he
              have hp1 := HNE.out rfl
              have hn41 : 1 ≤ n4 := by omega
              obtain ⟨b4, o4, hA4, _, _⟩ := hs4.out.1.all (by omega)
              subst hA4
              rcases HO2.out with ⟨h1, rfl⟩ | ⟨b5, o5, n5, c5, rfl, h5, hs5⟩
              · rw [if_pos ⟨rfl, .inl h1⟩] at hstep
                have HST := Lib.hid hstep
                clear hstep
                go_wp2_with fail
                go_roundw
                case rel => exact ⟨j + 1, by omega, by go_num, by rw [HST.out]; exact Lib.hid (.inr ⟨_, _, _, _, rfl, by omega, hs4.out⟩), HB2⟩
                case measure => simp [intOf] <;> omega
              · have hl5 := hs5.1.len
                have hne5 : runK l s j ≠ [] := fun h => by rw [h] at hl5; simp at hl5; omega
                by_cases hlt2 : p.length < (runK l s j).length
                · rw [if_pos ⟨rfl, .inr hlt2⟩] at hstep
                  have HST := Lib.hid hstep
                  have hlt3 : n4 < n5 := by omega
                  clear hstep hlt2 hl5 hn4 hs5
                  go_wp2_with fail
                  go_roundw
                  case rel => exact ⟨j + 1, by omega, by go_num, by rw [HST.out]; exact Lib.hid (.inr ⟨_, _, _, _, rfl, by omega, hs4.out⟩), HB2⟩
                  case measure => simp [intOf] <;> omega
                · rw [if_neg (by rintro ⟨_, h | h⟩; exact hne5 h; exact hlt2 h)] at hstep
                  have HST := Lib.hid hstep
                  have hlt3 : ¬ n4 < n5 := by omega
                  clear hstep hlt2 hl5 hn4 hs5
                  go_wp2_with fail
                  go_roundw
                  case rel => exact ⟨j + 1, by omega, by go_num, by rw [HST.out]; exact HO2, HB2⟩
                  case measure => simp [intOf] <;> omega
            · rw [if_neg (fun h => he h.1)] at hstep
              have HST := Lib.hid hstep
              have heb : (e == 0) = false := by simp [he]
              clear hstep
              go_wp2_with fail
              go_roundw
              case rel => exact ⟨j + 1, by omega, by go_num, by rw [HST.out]; exact HO2, HB2⟩
              case measure => simp [intOf] <;> omega
        · obtain rfl : j = 34 := by omega
          obtain ⟨rfl, rfl⟩ := hL.out
          obtain ⟨G, n5, c5, rfl, hs5⟩ := hov.out.sl
          go_wp2_with fail
          go_ret2
          exact ⟨_, _, _, rfl, hs5, on HB1.out hb.out⟩
    · have hL : Hid ([] = r ∧ (1 : Int) = er) := by
        have h := HL.out
        unfold runR at h
        rw [hpre, if_pos rfl] at h
        injection h with h1 h2
        exact ⟨h1, h2⟩
      obtain ⟨rfl, rfl⟩ := hL.out
      go_wp2_with fail
      go_ret2
      exact ⟨none, 0, 0, rfl, Sl.nil _ _, Below.refl _ _⟩
end Go.Proofs.YtbmooemlekckbaaGreatDoor

/- rle.Put. -/
namespace Go.Proofs.YtbmooemlekckbaaGreatDoor
open Go.RowKit

/-- Bytes of the call's own and an error's number are handed back. -/
def BytesOwn (w : World) (l : List Int) (er : Int) (e : Ending) (w' : World) : Prop :=
  ∃ G n c, e = .returned (.tuple #[.slice G n c, .int .i64 er]) ∧ w'.ownsRow w.heap.size 5 1 (.slice G n c) n (l.map (Value.int .u8)) ∧ Below w.heap.size w w'
theorem own_nilB (w : World) (B : Nat) (e : TypeId) (size : Nat) : w.ownsRow B e size (.slice none 0 0) 0 ([].map (Value.int .u8)) := ⟨by simp, .inl ⟨rfl, rfl⟩⟩
theorem BytesOwn.err {w : World} {l : List Int} {er : Int} {e : Ending} {w' : World} (h : BytesOwn w l er e w') : BytesErr w l er e w' := by
  obtain ⟨G, n, c, h1, h2, h3⟩ := h
  exact ⟨G, n, c, h1, Sl.of_own h2, h3⟩
def lenS : Value → Nat
  | .slice _ n _ => n
  | _ => 0
/-- The state while numbers are laid down in runs. -/
def PutGW (w wr : World) (N : Nat) (s : Bool) (res : List Int × Int) (lv v : Value) : Prop :=
  ∃ A m c l o f, lv = .slice A m c ∧ Ri w .i64 A m l ∧ I64 l ∧ m ≤ c ∧ c ≤ 9223372036854775807 ∧ m ≤ N ∧ wr.ownsRow w.heap.size 5 1 v o.length (o.map (Value.int .u8)) ∧ Below w.heap.size w wr ∧ putF s f o l = res ∧ m < f ∧ o.length + 10 * m ≤ 10 * N
theorem I64.take {l : List Int} (h : I64 l) (k : Nat) : I64 (l.take k) := fun y hy => h y (List.mem_of_mem_take hy)
theorem I64.drop {l : List Int} (h : I64 l) (k : Nat) : I64 (l.drop k) := fun y hy => h y (List.mem_of_mem_drop hy)

set_option maxRecDepth 100000 in
set_option maxHeartbeats 2000000 in
theorem PutGl_own (w : World) (A : Option Addr) (n cap : Nat) (l : List Int) (hr : Ri w .i64 A n l) (hu : I64 l) (hc : n ≤ cap) (hm : cap ≤ 9223372036854775807) (hn : n ≤ 1000000) (s : Bool) (r : List Int) (er : Int) (hp : putGl l s = (r, er)) :
    Calls Tryz.prog 17 #[.slice A n cap, .bool s] w (BytesOwn w r er) := by
  have HR := Lib.hid hr; have HU := Lib.hid hu; have HN := Lib.hid hr.len
  clear hr hu
  unfold putGl at hp
  rw [HN.out] at hp
  by_cases hbig : 4096 < n
  · rw [if_pos hbig] at hp
    injection hp with e1 e2
    subst e1 e2
    go_enter Tryz.func17, Tryz.ntmps17
    go_wp2_with fail
    go_ret2
    exact ⟨none, 0, 0, rfl, own_nilB _ _ _ _, Below.refl _ _⟩
  · rw [if_neg hbig] at hp
    have HP := Lib.hid hp
    clear hp
    go_enter Tryz.func17, Tryz.ntmps17
    go_wp2_with fail
    go_loopw [0, 6] (fun b v wr => Hid (PutGW w wr n s (r, er) b v)) (fun b _ _ => lenS b)
    case atStart => exact ⟨A, n, cap, l, [], n + 1, rfl, HR.out, HU.out, hc, hm, Nat.le_refl _, World.ownsRow_nil _ _ _ _, Below.refl _ _, HP.out, Nat.lt_succ_self _, by simp⟩
    case round =>
      obtain ⟨A1, n1, c1, l1, o, f, rfl, hr1, hu1, hc1, hcm1, hn1, ho, hb, hd, hf, hol⟩ := hrel.out
      obtain ⟨G, gc, rfl⟩ := own_form ho
      have hgc := own_cap ho
      have HR1 := Lib.hid hr1; have HU1 := Lib.hid hu1; have HO := Lib.hid ho; have HB := Lib.hid hb; have HL1 := Lib.hid hr1.len
      obtain ⟨f, rfl⟩ : ∃ g, f = g + 1 := ⟨f - 1, by omega⟩
      simp only [putF] at hd
      rw [HL1.out] at hd
      clear hrel hr1 hu1 ho hb
      by_cases h0 : n1 = 0
      · subst h0
        rw [if_pos rfl] at hd
        injection hd with e1 e2
        subst e1 e2
        go_wp2_with fail
        go_ret2
        exact ⟨_, _, _, rfl, HO.out, HB.out⟩
      · rw [if_neg h0] at hd
        obtain ⟨b, of, hA, hbl, _⟩ := HR1.out.all (by omega)
        subst hA
        have HCALL := Lib.hid (Cut_any wr _ n1 c1 l1 (HR1.out.below HB.out) hc1 hcm1 (by omega))
        have hcr := cutL_range l1 (by rw [HL1.out]; omega)
        rw [HL1.out] at hcr
        obtain ⟨K, hK⟩ : ∃ K, K = cutL l1 := ⟨_, rfl⟩
        rw [← hK] at hd HCALL hcr
        have hrc := run_cases (l1.take K) s (HU1.out.take K)
        rw [List.length_take, HL1.out, Nat.min_eq_left (by omega)] at hrc
        obtain ⟨q, e, hq⟩ : ∃ q e, runR (l1.take K) s = (q, e) := ⟨_, _, rfl⟩
        have HQ := Lib.hid hq
        rw [hq] at hd hrc
        clear hq hK
        go_wp2_with fail
        refine HCALL.out.mono ?_; rintro e1 w1 ⟨rfl, hb1⟩
        have HB1 := Lib.hid (on HB.out hb1)
        have HO1 := Lib.hid (own_below HO.out hb1)
        clear hb1
        go_wp2_with fail
        refine (Run_any _ _ K c1 (l1.take K) ((HR1.out.first (by omega)).below HB1.out) (HU1.out.take K) (by omega) hcm1 (by omega) s q e HQ.out).mono ?_; rintro e1 w2 ⟨G2, n2, c2, rfl, hs2, hb2⟩
        have HB2 := Lib.hid (on HB1.out hb2)
        have HO2 := Lib.hid (own_below HO1.out hb2)
        have HS2 := Lib.hid hs2
        have hn2 := hs2.1.len
        have hz2 := HB2.out.size
        clear hb2 hs2
        rcases hrc with h | ⟨q', h, hql⟩
        · injection h with h1 h2
          subst h1 h2
          rw [if_pos (by decide)] at hd
          injection hd with e1 e2
          subst e1 e2
          go_wp2_with fail
          go_ret2
          exact ⟨none, 0, 0, rfl, own_nilB _ _ _ _, HB2.out⟩
        · injection h with h1 h2
          subst h1 h2
          rw [if_neg (by simp)] at hd
          have HD := Lib.hid hd
          clear hd
          go_upto_region 9 with fail
          go_region_law (first
            | (refine step_u8o rfl (.tmp 29) (.tmp 30) rfl w.heap.size _ o.length o (by kernel_rfl) (by first | exact HO2.out.drew | exact HO2.out) _ n2 c2 q (by kernel_rfl) (by first | exact HS2.out.1.drew | exact HS2.out.1) (by omega) (by simp; omega) ?_; intro G3 c3 w3 hown hgr hat; have HOWN := Lib.hid hown; have HB3 := Lib.hid (below_of_grown (by first | exact HB2.out.drew | exact HB2.out) hgr (by simp; omega) (fun k hk => (HO2.out.lt k hk).1)); clear hown hgr hat))
          all_goals
            go_wp2_with fail
          all_goals
            refine ⟨⟨_, _, _, _, Lib.hid ⟨_, _, _, l1.drop K, o ++ q, f, rfl, ?_, HU1.out.drop K, by omega, by omega, by omega, ?_, HB3.out, HD.out, by omega, ?_⟩, rfl, rfl, rfl, rfl⟩, ?_⟩
            · first
                | exact HR1.out.rest (by omega) (fun _ => rfl)
                | exact (HR1.out.rest (i := K) (by omega) (fun _ => rfl)).zero (by omega) _
            · rw [List.length_append, hn2]
              exact HOWN.out
            · rw [List.length_append, hn2]
              omega
            · show n1 - K < n1
              omega
theorem PutGl_any (w : World) (A : Option Addr) (n cap : Nat) (l : List Int) (hr : Ri w .i64 A n l) (hu : I64 l) (hc : n ≤ cap) (hm : cap ≤ 9223372036854775807) (hn : n ≤ 1000000) (s : Bool) (r : List Int) (er : Int) (hp : putGl l s = (r, er)) :
    Calls Tryz.prog 17 #[.slice A n cap, .bool s] w (BytesErr w r er) :=
  (PutGl_own w A n cap l hr hu hc hm hn s r er hp).mono fun _ _ h => h.err
end Go.Proofs.YtbmooemlekckbaaGreatDoor

/- pilasterref11.Put. -/
namespace Go.Proofs.YtbmooemlekckbaaGreatDoor
open Go.RowKit

set_option maxRecDepth 100000 in
set_option maxHeartbeats 2000000 in
theorem refPutGl_own (w : World) (A : Option Addr) (n cap : Nat) (l : List Int) (hr : Ri w .i64 A n l) (hu : I64 l) (hc : n ≤ cap) (hm : cap ≤ 9223372036854775807) (hn : n ≤ 1000000) (s : Bool) (r : List Int) (er : Int) (hp : putGl l s = (r, er)) :
    Calls Tryz.prog 26 #[.slice A n cap, .bool s] w (BytesOwn w r er) := by
  have HR := Lib.hid hr; have HU := Lib.hid hu; have HN := Lib.hid hr.len
  clear hr hu
  unfold putGl at hp
  rw [HN.out] at hp
  by_cases hbig : 4096 < n
  · rw [if_pos hbig] at hp
    injection hp with e1 e2
    subst e1 e2
    go_enter Tryz.func26, Tryz.ntmps26
    go_wp2_with fail
    go_ret2
    exact ⟨none, 0, 0, rfl, own_nilB _ _ _ _, Below.refl _ _⟩
  · rw [if_neg hbig] at hp
    have HP := Lib.hid hp
    clear hp
    go_enter Tryz.func26, Tryz.ntmps26
    go_wp2_with fail
    go_loopw [0, 6] (fun b v wr => Hid (PutGW w wr n s (r, er) b v)) (fun b _ _ => lenS b)
    case atStart => exact ⟨A, n, cap, l, [], n + 1, rfl, HR.out, HU.out, hc, hm, Nat.le_refl _, own_empty w _ 1, (Below.refl _ _).alloc (Nat.le_refl _) _, HP.out, Nat.lt_succ_self _, by simp⟩
    case round =>
      obtain ⟨A1, n1, c1, l1, o, f, rfl, hr1, hu1, hc1, hcm1, hn1, ho, hb, hd, hf, hol⟩ := hrel.out
      obtain ⟨G, gc, rfl⟩ := own_form ho
      have hgc := own_cap ho
      have HR1 := Lib.hid hr1; have HU1 := Lib.hid hu1; have HO := Lib.hid ho; have HB := Lib.hid hb; have HL1 := Lib.hid hr1.len
      obtain ⟨f, rfl⟩ : ∃ g, f = g + 1 := ⟨f - 1, by omega⟩
      simp only [putF] at hd
      rw [HL1.out] at hd
      clear hrel hr1 hu1 ho hb
      by_cases h0 : n1 = 0
      · subst h0
        rw [if_pos rfl] at hd
        injection hd with e1 e2
        subst e1 e2
        go_wp2_with fail
        go_ret2
        exact ⟨_, _, _, rfl, HO.out, HB.out⟩
      · rw [if_neg h0] at hd
        obtain ⟨b, of, hA, hbl, _⟩ := HR1.out.all (by omega)
        subst hA
        have HCALL := Lib.hid (refCut_any wr _ n1 c1 l1 (HR1.out.below HB.out) hc1 (by omega))
        have hcr := cutL_range l1 (by rw [HL1.out]; omega)
        rw [HL1.out] at hcr
        obtain ⟨K, hK⟩ : ∃ K, K = cutL l1 := ⟨_, rfl⟩
        rw [← hK] at hd HCALL hcr
        have hrc := run_cases (l1.take K) s (HU1.out.take K)
        rw [List.length_take, HL1.out, Nat.min_eq_left (by omega)] at hrc
        obtain ⟨q, e, hq⟩ : ∃ q e, runR (l1.take K) s = (q, e) := ⟨_, _, rfl⟩
        have HQ := Lib.hid hq
        rw [hq] at hd hrc
        clear hq hK
        go_wp2_with fail
        refine HCALL.out.mono ?_; rintro e1 w1 ⟨rfl, hb1⟩
        have HB1 := Lib.hid (on HB.out hb1)
        have HO1 := Lib.hid (own_below HO.out hb1)
        clear hb1
        go_wp2_with fail
        refine (refRun_any _ _ K c1 (l1.take K) ((HR1.out.first (by omega)).below HB1.out) (HU1.out.take K) (by omega) (by omega) s q e HQ.out).mono ?_; rintro e1 w2 ⟨G2, n2, c2, rfl, hs2, hb2⟩
        have HB2 := Lib.hid (on HB1.out hb2)
        have HO2 := Lib.hid (own_below HO1.out hb2)
        have HS2 := Lib.hid hs2
        have hn2 := hs2.1.len
        have hz2 := HB2.out.size
        clear hb2 hs2
        rcases hrc with h | ⟨q', h, hql⟩
        · injection h with h1 h2
          subst h1 h2
          rw [if_pos (by decide)] at hd
          injection hd with e1 e2
          subst e1 e2
          go_wp2_with fail
          go_ret2
          exact ⟨none, 0, 0, rfl, own_nilB _ _ _ _, HB2.out⟩
        · injection h with h1 h2
          subst h1 h2
          rw [if_neg (by simp)] at hd
          have HD := Lib.hid hd
          clear hd
          go_wp2_with (at_builtin; refine wpList_u8 _ rfl _ _ rfl w.heap.size _ o.length o rfl HO2.out _ n2 c2 q rfl HS2.out.1 (by omega) hz2 ?_; intro G3 c3 w3 hown hgr hcc)
          have HOWN := Lib.hid hown; have HB3 := Lib.hid (push0 HB2.out (Nat.le_refl _) HO2.out hgr)
          clear hown hgr
          all_goals
            go_wp2_with fail
          all_goals
            refine ⟨⟨_, _, _, l1.drop K, o ++ q, f, rfl, ?_, HU1.out.drop K, by omega, by omega, by omega, ?_, HB3.out, HD.out, by omega, ?_⟩, ?_⟩
            · first
                | exact HR1.out.rest (by omega) (fun _ => rfl)
                | exact HR1.out.restIf (by omega) hc1
            · rw [List.length_append, hn2]
              exact HOWN.out
            · rw [List.length_append, hn2]
              omega
            · show n1 - K < n1
              omega
theorem refPutGl_any (w : World) (A : Option Addr) (n cap : Nat) (l : List Int) (hr : Ri w .i64 A n l) (hu : I64 l) (hc : n ≤ cap) (hm : cap ≤ 9223372036854775807) (hn : n ≤ 1000000) (s : Bool) (r : List Int) (er : Int) (hp : putGl l s = (r, er)) :
    Calls Tryz.prog 26 #[.slice A n cap, .bool s] w (BytesErr w r er) :=
  (refPutGl_own w A n cap l hr hu hc hm hn s r er hp).mono fun _ _ h => h.err
end Go.Proofs.YtbmooemlekckbaaGreatDoor

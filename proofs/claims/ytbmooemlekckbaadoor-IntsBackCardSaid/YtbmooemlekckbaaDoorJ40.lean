/- Joined texts: PlainGb. Each has its own head line. No condition beyond those that its theorems state. -/
import Derived.Test.YtbmooemlekckbaaDoorJ21
import Derived.Test.YtbmooemlekckbaaDoorJ39
import Derived.Test.YtbmooemlekckbaaDoorJ26
import Derived.Test.YtbmooemlekckbaaDoorJ24
import Derived.Test.YtbmooemlekckbaaDoorJ18
set_option linter.unusedVariables false

/- Rle: plain law: runs that were laid down are taken as they were. -/
namespace Go.Proofs.YtbmooemlekckbaaDoor
open Go.RowKit

theorem keep_cases (l : List Int) (s : Bool) (hk : l.all (keepB s) = true) : s = true ∨ ∀ y ∈ l, 0 ≤ y := by
  cases s
  · right
    intro y hy
    have := List.all_eq_true.1 hk y hy
    simpa [keepB] using this
  · exact .inl rfl
theorem steps_backS (l : List Int) (hu : I64 l) (s : Bool) (hs : s = true ∨ ∀ y ∈ l, 0 ≤ y) (m : Nat) (hm : m + 1 = l.length) (hok : okD l m = true) : ∀ k j : Nat, j + k = m → stepsDe (decide (dAt l 0 < 0)) s (l.getD j 0) ((dsz l m).drop j) = some (l.drop (j + 1)) := by
  intro k
  induction k with
  | zero =>
    intro j hj
    rw [List.drop_eq_nil_of_le (by rw [dsz_len]; omega), List.drop_eq_nil_of_le (by omega), stepsDe_nil]
  | succ k ih =>
    intro j hj
    have hd : (dsz l m).getD j 0 = absI (dAt l j) := by
      simp [dsz, List.getD, List.getElem?_map, List.getElem?_range (show j < m by omega)]
    have hoj := List.all_eq_true.1 hok j (List.mem_range.2 (by omega))
    unfold okAt at hoj
    simp only [Bool.and_eq_true, decide_eq_true_eq, Bool.or_eq_true, beq_iff_eq] at hoj
    have hs1 : l.getD j 0 + dAt l j = l.getD (j + 1) 0 := by unfold dAt; omega
    have hst := stepR_back (l.getD j 0) (dAt l j) (decide (dAt l 0 < 0)) (getD_i64x hu j) (by rw [hs1]; exact getD_i64x hu (j + 1)) hoj.1 hoj.2
    rw [hs1] at hst
    have hs2 : s = true ∨ 0 ≤ l.getD (j + 1) 0 := by
      rcases hs with hs | hs
      · exact .inl hs
      · right
        rw [List.getD, List.getElem?_eq_getElem (show j + 1 < l.length by omega), Option.getD_some]
        exact hs _ (List.getElem_mem _)
    rw [drop_cons _ j (by rw [dsz_len]; omega), hd]
    simp only [stepsDe]
    rw [hst, if_pos ⟨rfl, hs2⟩]
    dsimp only
    rw [ih (j + 1) (by omega), drop_cons l (j + 1) (by omega)]
    rfl
theorem de_backS (l : List Int) (hu : I64 l) (s : Bool) (r : List Int) (hr : putDe l s = (r, 0)) : U8 r ∧ ∀ q, takeDe (r ++ q) s = (l, q, 0) := by
  have hbd : ¬ badDe l s := by
    intro h
    unfold putDe at hr
    rw [if_pos h] at hr
    injection hr with _ h1
    cases h1
  have hb2 := hbd
  unfold badDe at hb2
  have h2 : 2 ≤ l.length := Nat.le_of_not_lt fun h => hb2 (.inl h)
  have h5 : l.length ≤ 512 := Nat.le_of_not_lt fun h => hb2 (.inr (.inl h))
  have hok : okD l (l.length - 1) = true := by
    rcases Bool.eq_false_or_eq_true (okD l (l.length - 1)) with h | h
    · exact h
    · exact absurd (.inr (.inr (.inr h))) hb2
  have hs : s = true ∨ ∀ y ∈ l, 0 ≤ y := by
    cases s
    · right
      intro y hy
      rcases Int.lt_or_le y 0 with h | h
      · exact absurd (.inr (.inr (.inl ⟨rfl, List.any_eq_true.2 ⟨y, hy, decide_eq_true h⟩⟩))) hb2
      · exact h
    · exact .inl rfl
  unfold putDe at hr
  rw [if_neg hbd] at hr
  injection hr with hr _
  have hd0 := dAt0_range l (l.length - 1) (by omega) hok
  have hx0 := getD_i64x hu 0
  have h0 : s = true ∨ 0 ≤ l.getD 0 0 := by
    rcases hs with hs | hs
    · exact .inl hs
    · right
      rw [List.getD, List.getElem?_eq_getElem (show 0 < l.length by omega), Option.getD_some]
      exact hs _ (List.getElem_mem _)
  have hsteps := steps_backS l hu s hs (l.length - 1) (by omega) hok (l.length - 1) 0 (by omega)
  rw [List.drop_zero] at hsteps
  have hl : l.getD 0 0 :: l.drop (0 + 1) = l := by rw [← drop_cons l 0 (by omega), List.drop_zero]
  have hdiff : diffR 0 (dAt l 0) = (absI (dAt l 0), decide (dAt l 0 < 0), true) := by
    rw [diffR_eq, Int.sub_zero, if_neg (by omega)]
  have hv1 : U8 (vput (unsN (l.getD 0 0) s)) := vput_u8 9 _ (by have := unsN_lt (l.getD 0 0) s hx0; omega)
  have hv2 : U8 (vput (unsN (dAt l 0) true)) := vput_u8 9 _ (by have := unsN_lt (dAt l 0) true hd0.1; omega)
  have happ : ∀ a b : List Int, U8 a → U8 b → U8 (a ++ b) := fun a b ha hb y hy => by
    rcases List.mem_append.1 hy with h | h
    · exact ha y h
    · exact hb y h
  cases hsm : sameD l (l.length - 1)
  · have htd : tailDe l = (dsz l (l.length - 1)).drop 1 := by unfold tailDe; rw [hsm]; rfl
    have hwd : widthDe l = wClosest (max 2 (mostBits ((dsz l (l.length - 1)).drop 1) : Int)) := by unfold widthDe; rw [hsm]; rfl
    have hcd : codeDe l = wCode (widthDe l) := by unfold codeDe; rw [hsm]; rfl
    have hut := tail_u64 l (l.length - 1) hok
    obtain ⟨K, hkw, hk2, hk64, hroom⟩ := most2_room _ hut
    have hmm := mostBits_le _ hut
    have hcl := wOf_closest (max 2 (mostBits ((dsz l (l.length - 1)).drop 1) : Int)) (by omega) (by omega)
    rw [hkw] at hwd hcl
    have htl : ((dsz l (l.length - 1)).drop 1).length = l.length - 2 := by rw [List.length_drop, dsz_len]; omega
    obtain ⟨p0, hp0, hp08, _, _⟩ := pack_back ((dsz l (l.length - 1)).drop 1) [] K hk64 (by omega) hut hroom
    rw [hcd, hwd, htd, hp0] at hr
    dsimp only at hr
    subst hr
    refine ⟨happ _ _ (happ _ _ (happ _ _ (head_u8 _ _ _).1 hv1) hv2) hp08, fun q => ?_⟩
    obtain ⟨p, hp1, hp2, hp3, hp4⟩ := pack_back ((dsz l (l.length - 1)).drop 1) q K hk64 (by omega) hut hroom
    obtain rfl : p0 = p := (Prod.mk.inj (hp0.symm.trans hp1)).1
    rw [List.append_assoc, List.append_assoc, List.append_assoc]
    rw [takeDe_eq (look_head (wCode K) l.length _ (by omega) (by omega) 3 (by omega)) (takeI_put _ s hx0 h0 _) (takeI_put _ true hd0.1 (.inl rfl) _) hdiff
      (show unpackR (p0 ++ q) ((l.length : Int) - 2) (wOf (wCode K)) = ((dsz l (l.length - 1)).drop 1, q, 0) from by rw [hcl.2.2, show ((l.length : Int) - 2) = (((dsz l (l.length - 1)).drop 1).length : Int) from by rw [htl]; omega]; exact hp4)]
    rw [if_neg (by omega), if_neg (by simp), if_neg (by simp), if_neg (by simp), if_neg (by simp), if_pos hcl.1, if_pos hcl.1]
    have hz : absI (dAt l 0) :: (dsz l (l.length - 1)).drop 1 = dsz l (l.length - 1) := by
      have h := drop_cons (dsz l (l.length - 1)) 0 (by rw [dsz_len]; omega)
      rw [List.drop_zero] at h
      rw [h]
      simp [dsz, List.getD, List.getElem?_map, List.getElem?_range (show 0 < l.length - 1 by omega)]
    rw [hz, hsteps]
    simp only [finDe]
    rw [hl]
  · have htd : tailDe l = [] := by unfold tailDe; rw [hsm]; rfl
    have hwd : widthDe l = 0 := by unfold widthDe; rw [hsm]; rfl
    have hcd : codeDe l = 0 := by unfold codeDe; rw [hsm]; rfl
    rw [hcd, hwd, htd, show (packR [] 0).1 = [] from rfl, List.append_nil] at hr
    subst hr
    refine ⟨happ _ _ (happ _ _ (head_u8 _ _ _).1 hv1) hv2, fun q => ?_⟩
    rw [List.append_assoc, List.append_assoc]
    obtain ⟨L, r3, e3, h5'⟩ : ∃ L r3 e3, unpackR q ((l.length : Int) - 2) (wOf 0) = (L, r3, e3) := ⟨_, _, _, rfl⟩
    rw [takeDe_eq (look_head 0 l.length _ (by omega) (by omega) 3 (by omega)) (takeI_put _ s hx0 h0 _) (takeI_put _ true hd0.1 (.inl rfl) _) hdiff h5']
    rw [if_neg (by omega), if_neg (by simp), if_neg (by simp), if_neg (by simp), if_neg (by simp), if_neg (by omega), if_neg (by omega), show ((l.length : Int) - 1).toNat = l.length - 1 from by omega, same_rep l _ hsm, hsteps]
    simp only [finDe]
    rw [hl]

/-- The kind stands in the first byte. -/
theorem look_kind (b : List Int) (hu : U8 b) (h : (lookR b).2.2.2.2 = 0) : (lookR b).1 = b.getD 0 0 / 64 ∧ 2 ≤ b.length := by
  unfold lookR at h ⊢
  split
  · rename_i h1; rw [if_pos h1] at h; cases h
  · rename_i h1
    have h2 : 0 ≤ b.getD 1 0 ∧ b.getD 1 0 < 256 := by
      rw [List.getD, List.getElem?_eq_getElem (show 1 < b.length by omega), Option.getD_some]
      exact hu _ (List.getElem_mem _)
    exact ⟨by dsimp only; omega, by omega⟩
theorem kindDe (b : List Int) (s : Bool) (hu : U8 b) (h : (takeDe b s).2.2 = 0) : b.getD 0 0 / 64 = 3 ∧ 2 ≤ b.length := by
  unfold takeDe at h
  split at h
  · cases h
  · rename_i h1
    have h2 := look_kind b hu (Decidable.not_not.1 fun h => h1 (.inl h))
    have h3 : (lookR b).1 = 3 := Decidable.not_not.1 fun h => h1 (.inr (.inl h))
    omega
theorem kindD (b : List Int) (s : Bool) (hu : U8 b) (h : (takeD b s).2.2 = 0) : b.getD 0 0 / 64 = 1 ∧ 2 ≤ b.length := by
  unfold takeD at h
  split at h
  · cases h
  · rename_i h1
    have h2 := look_kind b hu (Decidable.not_not.1 fun h => h1 (.inl h))
    have h3 : (lookR b).1 = 1 := Decidable.not_not.1 fun h => h1 (.inr h)
    omega
theorem kindPa (b : List Int) (s : Bool) (hu : U8 b) (h : (takePa b s).2.2 = 0) : b.getD 0 0 / 64 = 2 ∧ 2 ≤ b.length := by
  unfold takePa at h
  split at h
  · cases h
  · rename_i h1
    have h2 := look_kind b hu (by unfold lookR; rw [if_neg (fun h => h1 (.inl h))])
    have h3 : (lookR b).1 = 2 := Decidable.not_not.1 fun h => h1 (.inr (.inl h))
    omega
theorem getD_app0 (p q : List Int) (h : 2 ≤ p.length) : (p ++ q).getD 0 0 = p.getD 0 0 ∧ (p ++ q).length ≠ 0 := by
  refine ⟨?_, by rw [List.length_append]; omega⟩
  rw [List.getD, List.getD, List.getElem?_append_left (by omega)]
theorem same_all (l : List Int) (h : sameL l = l.length) : List.replicate l.length (l.getD 0 0) = l := by
  apply List.ext_getElem (by simp)
  intro i h1 h2
  rw [List.getElem_replicate]
  have := sameL_all l i (by omega)
  rw [List.getD, List.getElem?_eq_getElem h2, Option.getD_some] at this
  exact this.symm
/-- What a kind lays down is taken as it was. -/
theorem cand_back (l : List Int) (hu : I64 l) (s : Bool) (hk : l.all (keepB s) = true) (h1 : 1 ≤ l.length) (h2 : l.length ≤ 512) (c : Nat) (r : List Int) (h : candR l s c = (r, 0)) :
    U8 r ∧ ∀ q, oneR (r ++ q) s = (l, q, 0) := by
  unfold candR at h
  split at h
  · unfold timesR at h
    split at h
    · rename_i hs
      have hr : ∃ ht : 3 ≤ (l.length : Int), (l.length : Int) ≤ 10 := by
        unfold putR at h
        split at h
        · injection h with _ h; cases h
        · rename_i h4; exact ⟨by omega, by omega⟩
      obtain ⟨ht1, ht2⟩ := hr
      have hx : s = false → 0 ≤ l.getD 0 0 := by
        intro e
        rcases keep_cases l s hk with h3 | h3
        · rw [e] at h3; cases h3
        · rw [List.getD, List.getElem?_eq_getElem (show 0 < l.length by omega), Option.getD_some]
          exact h3 _ (List.getElem_mem _)
      obtain ⟨p, hp, hp8, hp2, hp9, hpb, _⟩ := put_take (l.getD 0 0) l.length s ht1 ht2 (getD_i64x hu 0) hx
      obtain rfl : r = p := (Prod.mk.inj (h.symm.trans hp)).1
      refine ⟨hp8, fun q => ?_⟩
      have hg := getD_app0 r q hp2
      have hb := hpb q
      unfold oneR
      rw [if_neg hg.2, if_pos, hb]
      · dsimp only
        rw [Int.toNat_natCast, same_all l (by simpa using hs)]
      · unfold takeR at hb
        split at hb
        · injection hb with _ hb; injection hb with _ hb; injection hb with _ hb; cases hb
        · rename_i c1 r1 he
          split at hb
          · injection hb with _ hb; injection hb with _ hb; injection hb with _ hb; cases hb
          · rename_i hc1
            rw [he, List.getD_cons_zero]
            have : c1 = r.getD 0 0 := by
              have h5 : (r ++ q).getD 0 0 = c1 := by rw [he]; rfl
              rw [← h5, hg.1]
            have h6 : 0 ≤ r.getD 0 0 := by
              rw [List.getD, List.getElem?_eq_getElem (show 0 < r.length by omega), Option.getD_some]
              exact (hp8 _ (List.getElem_mem _)).1
            omega
    · injection h with _ h; cases h
  · split at h
    · obtain ⟨p, hp, hp8, _, hpb⟩ := putD_back l s hu hk h1 h2
      obtain rfl : r = p := (Prod.mk.inj (h.symm.trans hp)).1
      have hkd := kindD (r ++ []) s (by rw [List.append_nil]; exact hp8) (by rw [hpb [] ])
      rw [List.append_nil] at hkd
      refine ⟨hp8, fun q => ?_⟩
      have hg := getD_app0 r q hkd.2
      unfold oneR
      rw [if_neg hg.2, hg.1, if_neg (by omega), if_pos hkd.1]
      exact hpb q
    · split at h
      · obtain ⟨hp8, hpb⟩ := de_backS l hu s r h
        have hkd := kindDe (r ++ []) s (by rw [List.append_nil]; exact hp8) (by rw [hpb [] ])
        rw [List.append_nil] at hkd
        refine ⟨hp8, fun q => ?_⟩
        have hg := getD_app0 r q hkd.2
        unfold oneR
        rw [if_neg hg.2, hg.1, if_neg (by omega), if_neg (by omega), if_neg (by omega)]
        exact hpb q
      · rcases pa_put l (wOf ((c - 3 : Nat) : Int)) s with hp | ⟨hpre, hok⟩
        · rw [hp] at h; injection h with _ h; cases h
        · obtain ⟨p, hp, hp8, _, hpb⟩ := pa_back l hu (wOf ((c - 3 : Nat) : Int)) s hpre hok
          obtain rfl : r = p := (Prod.mk.inj (h.symm.trans hp)).1
          have hkd := kindPa (r ++ []) s (by rw [List.append_nil]; exact hp8) (by rw [hpb [] ])
          rw [List.append_nil] at hkd
          refine ⟨hp8, fun q => ?_⟩
          have hg := getD_app0 r q hkd.2
          unfold oneR
          rw [if_neg hg.2, hg.1, if_neg (by omega), if_neg (by omega), if_pos hkd.1]
          exact hpb q
theorem keep_run (l : List Int) (s : Bool) (hk : l.all (keepB s) = true) (h1 : 1 ≤ l.length) (h2 : l.length ≤ 512) : badRun l s = false := by
  unfold badRun
  rw [decide_eq_false (by omega), decide_eq_false (by omega), Bool.or_self, Bool.false_or]
  rcases keep_cases l s hk with rfl | h
  · rfl
  · have : (l.any fun y => decide (y < 0)) = false := by
      rw [List.any_eq_false]
      intro y hy
      have := h y hy
      simp; omega
    rw [this, Bool.and_false]
theorem all_part (l : List Int) (p : Int → Bool) (k : Nat) (h : l.all p = true) : (l.take k).all p = true ∧ (l.drop k).all p = true := by
  rw [List.all_eq_true] at h
  exact ⟨List.all_eq_true.2 fun x hx => h x (List.mem_of_mem_take hx), List.all_eq_true.2 fun x hx => h x (List.mem_of_mem_drop hx)⟩
theorem putF_back (s : Bool) : ∀ (n : Nat) (l : List Int), l.length ≤ n → I64 l → l.all (keepB s) = true → ∀ (f : Nat) (out : List Int), l.length < f →
    ∃ p, putF s f out l = (out ++ p, 0) ∧ U8 p ∧ p.length ≤ 10 * l.length ∧
      ∀ (many g : Nat) (outT r : List Int), many = outT.length + l.length → p.length + r.length < g → takeF s many g outT (p ++ r) = (outT ++ l, r, 0) := by
  intro n
  induction n with
  | zero =>
    intro l hl hu hk f out hf
    obtain rfl : l = [] := List.eq_nil_of_length_eq_zero (by omega)
    cases f with
    | zero => omega
    | succ f =>
      refine ⟨[], by rw [putF, List.append_nil]; exact if_pos rfl, fun y hy => (by cases hy), by simp, fun many g outT r hm hg => ?_⟩
      cases g with
      | zero => omega
      | succ g => rw [takeF, if_pos (by simp at hm; omega), List.nil_append, List.append_nil]
  | succ n ih =>
    intro l hl hu hk f out hf
    rcases Nat.eq_zero_or_pos l.length with h0 | h0
    · exact ih l (by omega) hu hk f out hf
    · cases f with
      | zero => omega
      | succ f =>
        have hc := cutL_range l h0
        obtain ⟨k, hkk⟩ : ∃ k, k = cutL l := ⟨_, rfl⟩
        rw [← hkk] at hc
        have hkt := all_part l (keepB s) k hk
        have hut : I64 (l.take k) := fun y hy => hu y (List.mem_of_mem_take hy)
        have hud : I64 (l.drop k) := fun y hy => hu y (List.mem_of_mem_drop hy)
        have hlt : (l.take k).length = k := by rw [List.length_take]; omega
        have hld : (l.drop k).length = l.length - k := List.length_drop
        obtain ⟨q, hq, hq2, hql, ⟨j, hj, hcand⟩, _⟩ := run_ok (l.take k) s hut (keep_run _ _ hkt.1 (by omega) (by omega))
        obtain ⟨hq8, hqb⟩ := cand_back (l.take k) hut s hkt.1 (by omega) (by omega) j q hcand
        obtain ⟨p, hp, hp8, hpl, hpb⟩ := ih (l.drop k) (by omega) hud hkt.2 f (out ++ q) (by omega)
        refine ⟨q ++ p, ?_, ?_, by rw [List.length_append]; omega, fun many g outT r hm hg => ?_⟩
        · rw [putF, if_neg (by omega), ← hkk, hq, if_neg (by simp)]
          dsimp only
          rw [hp, List.append_assoc]
        · intro y hy
          rcases List.mem_append.1 hy with h | h
          · exact hq8 y h
          · exact hp8 y h
        · rw [List.length_append] at hg
          cases g with
          | zero => omega
          | succ g =>
            rw [takeF, if_neg (by omega), List.append_assoc, hqb]
            dsimp only
            rw [if_neg (by rw [hlt]; omega), hpb many g (outT ++ l.take k) r (by rw [List.length_append, hlt, hld]; omega) (by omega), List.append_assoc, List.take_append_drop]
/-- Runs that were laid down are taken as they were. -/
theorem gl_back (l : List Int) (s : Bool) (hu : I64 l) (hk : l.all (keepB s) = true) (h : l.length ≤ 4096) :
    ∃ p, putGl l s = (p, 0) ∧ U8 p ∧ p.length ≤ 50000 ∧ ∀ r, takeGl (p ++ r) l.length s = (l, r, 0) := by
  obtain ⟨p, hp, hp8, hpl, hpb⟩ := putF_back s l.length l (Nat.le_refl _) hu hk (l.length + 1) [] (Nat.lt_succ_self _)
  refine ⟨p, ?_, hp8, by omega, fun r => ?_⟩
  · unfold putGl
    rw [if_neg (by omega), hp, List.nil_append]
  · unfold takeGl
    rw [if_neg (by omega), Int.toNat_natCast, hpb l.length _ [] r (by simp) (by rw [List.length_append]; omega), List.nil_append]
end Go.Proofs.YtbmooemlekckbaaDoor

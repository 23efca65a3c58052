/- Joined texts: PlainGm. Each has its own head line. No condition beyond those that its theorems state. -/
import Derived.Test.YtbmooemlekckbaaDoorJ40
import Derived.Test.YtbmooemlekckbaaDoorJ41
set_option linter.unusedVariables false

/- Rle: plain: numbers that are not below 0; a run's bytes are the same, whether signed; one number more is not there. -/
namespace Go.Proofs.YtbmooemlekckbaaDoor
open Go.RowKit

theorem takeD_pos (b : List Int) : ∀ y ∈ (takeD b false).1, 0 ≤ y := by
  have hnil : ∀ y ∈ ([] : List Int), (0 : Int) ≤ y := fun y hy => by cases hy
  have hu := unpackR_u64 (lookR b).2.2.2.1 (lookR b).2.2.1 (wOf (lookR b).2.1)
  unfold takeD
  split
  · exact hnil
  · split
    · exact hnil
    · split
      · exact hnil
      · dsimp only
        unfold madeL mapOk
        rw [if_neg (by simp)]
        split
        · dsimp only
          rw [List.map_id]
          exact fun y hy => (hu y hy).1
        · exact hnil
theorem takePa_pos (b : List Int) : ∀ y ∈ (takePa b false).1, 0 ≤ y := by
  have hbad : ∀ y ∈ badT.1, (0 : Int) ≤ y := fun y hy => by cases hy
  unfold takePa
  split
  · exact hbad
  · unfold takeP2
    split
    · exact hbad
    · unfold takeP2b
      split
      · exact hbad
      · unfold takeP3
        split
        · exact hbad
        · unfold takeP4
          split
          · exact hbad
          · split
            · rename_i h
              intro y hy
              obtain ⟨u, hu, rfl⟩ := List.mem_map.1 hy
              have := List.all_eq_true.1 h u hu
              unfold sumOk at this
              simp only [Bool.false_or, Bool.and_eq_true, decide_eq_true_eq] at this
              exact this.2
            · exact hbad
theorem stepsDe_pos (f : Bool) (Z : List Int) : ∀ (x : Int) (l : List Int), stepsDe f false x Z = some l → ∀ y ∈ l, 0 ≤ y := by
  induction Z with
  | nil => intro x l h; rw [stepsDe_nil] at h; injection h with h; subst h; exact fun y hy => (by cases hy)
  | cons u t ih =>
    intro x l h
    simp only [stepsDe] at h
    split at h
    · rename_i h1
      rw [Option.map_eq_some_iff] at h
      obtain ⟨l2, h2, rfl⟩ := h
      intro y hy
      rcases List.mem_cons.1 hy with rfl | hy
      · rcases h1.2 with h3 | h3
        · cases h3
        · exact h3
      · exact ih _ l2 h2 y hy
    · cases h
theorem takeI_pos (b : List Int) : 0 ≤ (takeI b false).1 := by
  unfold takeI
  split
  · simp
  · rw [if_neg (by simp)]
    split
    · simp
    · dsimp only; omega
theorem finDe_pos (x : Int) (r : List Int) (o : Option (List Int)) (hx : 0 ≤ x) (h : ∀ l, o = some l → ∀ y ∈ l, 0 ≤ y) : ∀ y ∈ (finDe x r o).1, 0 ≤ y := by
  cases o with
  | none => exact fun y hy => (by cases hy)
  | some l =>
    intro y hy
    rcases List.mem_cons.1 hy with rfl | hy
    · exact hx
    · exact h l rfl y hy
theorem takeDe_pos (b : List Int) : ∀ y ∈ (takeDe b false).1, 0 ≤ y := by
  have hnil : ∀ y ∈ ([] : List Int), (0 : Int) ≤ y := fun y hy => by cases hy
  unfold takeDe
  split
  · exact hnil
  · split
    · exact hnil
    · split
      · exact hnil
      · split
        · exact hnil
        · split
          · exact hnil
          · exact finDe_pos _ _ _ (takeI_pos _) (fun l h => stepsDe_pos _ _ _ l h)
theorem takeR_pos (b : List Int) : 0 ≤ (takeR b false).1 := by
  unfold takeR
  split
  · simp
  · split
    · simp
    · split
      · simp
      · split
        · simp
        · dsimp only
          rw [if_neg (by simp)]
          omega
theorem one_pos (b : List Int) : ∀ y ∈ (oneR b false).1, 0 ≤ y := by
  unfold oneR
  split
  · exact fun y hy => (by cases hy)
  · split
    · intro y hy
      rw [List.eq_of_mem_replicate hy]
      exact takeR_pos b
    · split
      · exact takeD_pos b
      · split
        · exact takePa_pos b
        · exact takeDe_pos b
theorem takeF_pos (many : Nat) : ∀ (f : Nat) (out b : List Int), (∀ y ∈ out, 0 ≤ y) → ∀ y ∈ (takeF false many f out b).1, 0 ≤ y := by
  intro f
  induction f with
  | zero => intro out b _ y hy; cases hy
  | succ f ih =>
    intro out b ho
    rw [takeF]
    split
    · exact ho
    · split
      · exact fun y hy => (by cases hy)
      · refine ih _ _ (fun y hy => ?_)
        rcases List.mem_append.1 hy with h | h
        · exact ho y h
        · exact one_pos b y h
theorem takeGl_pos (b : List Int) (many : Int) : ∀ y ∈ (takeGl b many false).1, 0 ≤ y := by
  unfold takeGl
  split
  · exact fun y hy => (by cases hy)
  · exact takeF_pos _ _ _ _ (fun y hy => (by cases hy))
/-- Just so many numbers are taken. -/
theorem takeF_many (s : Bool) (many : Nat) : ∀ (f : Nat) (out b : List Int), out.length ≤ many → (takeF s many f out b).2.2 = 0 → (takeF s many f out b).1.length = many := by
  intro f
  induction f with
  | zero => intro out b _ h; cases h
  | succ f ih =>
    intro out b ho
    rw [takeF]
    split
    · intro _; dsimp only; omega
    · split
      · intro h; cases h
      · rename_i h1
        exact ih _ _ (by rw [List.length_append]; omega)
theorem takeGl_many (b : List Int) (many : Int) (s : Bool) (h : (takeGl b many s).2.2 = 0) : ((takeGl b many s).1.length : Int) = many := by
  unfold takeGl at h ⊢
  split at h
  · cases h
  · rename_i h1
    rw [if_neg h1]
    have := takeF_many s many.toNat (b.length + 1) [] b (Nat.zero_le _) h
    omega
theorem takeF_rest (s : Bool) (many : Nat) : ∀ (f : Nat) (out b : List Int), U8 b → U8 (takeF s many f out b).2.1 ∧ (takeF s many f out b).2.1.length ≤ b.length := by
  intro f
  induction f with
  | zero => intro out b _; exact ⟨fun y hy => (by cases hy), Nat.zero_le _⟩
  | succ f ih =>
    intro out b hb
    rw [takeF]
    split
    · exact ⟨hb, Nat.le_refl _⟩
    · split
      · exact ⟨fun y hy => (by cases hy), Nat.zero_le _⟩
      · rename_i h1
        have h2 := one_rest b s hb
        have h3 := ih (out ++ (oneR b s).1) _ h2.1
        have h4 := h2.2 (Decidable.not_not.1 fun h => h1 (.inl h))
        exact ⟨h3.1, by omega⟩
theorem takeGl_rest (b : List Int) (many : Int) (s : Bool) (hb : U8 b) : U8 (takeGl b many s).2.1 ∧ (takeGl b many s).2.1.length ≤ b.length := by
  unfold takeGl
  split
  · exact ⟨fun y hy => (by cases hy), Nat.zero_le _⟩
  · exact takeF_rest _ _ _ _ _ hb
/-- What stands behind a run is the same, whether signed. -/
theorem takeR_same (b : List Int) (h1 : (takeR b true).2.2.2 = 0) (h2 : (takeR b false).2.2.2 = 0) : (takeR b true).2.2.1 = (takeR b false).2.2.1 := by
  unfold takeR at h1 h2 ⊢
  cases b with
  | nil => rfl
  | cons c r =>
    dsimp only at h1 h2 ⊢
    split at h1
    · cases h1
    · rename_i a1
      rw [if_neg a1] at h2 ⊢
      split at h1
      · cases h1
      · rename_i a2
        rw [if_neg a2] at h2 ⊢
        split at h1
        · cases h1
        · rename_i a3
          rw [if_neg a3]
          rw [if_neg a1, if_neg a2]
          split at h2
          · cases h2
          · rename_i a4; rw [if_neg a4]
theorem takeD_same (b : List Int) (h1 : (takeD b true).2.2 = 0) (h2 : (takeD b false).2.2 = 0) : (takeD b true).2.1 = (takeD b false).2.1 := by
  unfold takeD at h1 h2 ⊢
  split at h1
  · cases h1
  · rename_i a1
    rw [if_neg a1] at h2 ⊢
    rw [if_neg a1]
    split at h1
    · cases h1
    · rename_i a2
      rw [if_neg a2] at h2 ⊢
      rw [if_neg a2]
      split at h1
      · cases h1
      · rename_i a3
        rw [if_neg a3]
        split at h2
        · cases h2
        · rename_i a4; rw [if_neg a4]
theorem takeP4_rest (B : Int) (s : Bool) (o : Option (List Int × Nat)) (r : List Int) (h : (takeP4 B s o r).2.2 = 0) : (takeP4 B s o r).2.1 = r := by
  cases o with
  | none => cases h
  | some q =>
    have e : takeP4 B s (some q) r = if q.1.all (sumOk B s) then (sumL B q.1, r, 0) else badT := rfl
    rw [e] at h ⊢
    split at h
    · rename_i h1; rw [if_pos h1]
    · cases h
theorem takePa_same (b : List Int) (h1 : (takePa b true).2.2 = 0) (h2 : (takePa b false).2.2 = 0) : (takePa b true).2.1 = (takePa b false).2.1 := by
  unfold takePa at h1 h2 ⊢
  split at h1
  · cases h1
  · rename_i a1
    rw [if_neg a1] at h2 ⊢
    rw [if_neg a1]
    unfold takeP2 at h1 h2 ⊢
    split at h1
    · cases h1
    · rename_i a2
      rw [if_neg a2] at h2 ⊢
      rw [if_neg a2]
      unfold takeP2b at h1 h2 ⊢
      split at h1
      · cases h1
      · rename_i a3
        rw [if_neg a3] at h2 ⊢
        rw [if_neg a3]
        unfold takeP3 at h1 h2 ⊢
        split at h1
        · cases h1
        · rename_i a4
          rw [if_neg a4] at h2 ⊢
          rw [if_neg a4]
          rw [takeP4_rest _ _ _ _ h1, takeP4_rest _ _ _ _ h2]
theorem takeI_same (b : List Int) (h1 : (takeI b true).2.2 = 0) (h2 : (takeI b false).2.2 = 0) : (takeI b true).2.1 = (takeI b false).2.1 := by
  unfold takeI at h1 h2 ⊢
  split at h1
  · cases h1
  · rename_i a1
    rw [if_neg a1] at h2 ⊢
    rw [if_neg a1, if_pos rfl, if_neg (by simp)]
    rw [if_neg (by simp)] at h2
    split at h2
    · cases h2
    · rename_i a2; rw [if_neg a2]
theorem finDe_rest2 (x : Int) (r : List Int) (o : Option (List Int)) (h : (finDe x r o).2.2 = 0) : (finDe x r o).2.1 = r := by
  cases o with
  | none => cases h
  | some l => rfl
theorem takeDe_rest_eq (b : List Int) (s : Bool) (h : (takeDe b s).2.2 = 0) : (takeI (lookR b).2.2.2.1 s).2.2 = 0 ∧
    (takeDe b s).2.1 = if 0 < (lookR b).2.1 then (unpackR (takeI (takeI (lookR b).2.2.2.1 s).2.1 true).2.1 ((lookR b).2.2.1 - 2) (wOf (lookR b).2.1)).2.1 else (takeI (takeI (lookR b).2.2.2.1 s).2.1 true).2.1 := by
  unfold takeDe at h ⊢
  split at h
  · cases h
  · rename_i a1
    rw [if_neg a1]
    split at h
    · cases h
    · rename_i a2
      rw [if_neg a2]
      split at h
      · cases h
      · rename_i a3
        rw [if_neg a3]
        split at h
        · cases h
        · rename_i a4
          rw [if_neg a4]
          split at h
          · cases h
          · rename_i a5
            rw [if_neg a5]
            exact ⟨Decidable.not_not.1 a2, finDe_rest2 _ _ _ h⟩
theorem takeDe_same (b : List Int) (h1 : (takeDe b true).2.2 = 0) (h2 : (takeDe b false).2.2 = 0) : (takeDe b true).2.1 = (takeDe b false).2.1 := by
  obtain ⟨k1, k2⟩ := takeDe_rest_eq b true h1
  obtain ⟨k3, k4⟩ := takeDe_rest_eq b false h2
  rw [k2, k4, takeI_same _ k1 k3]
theorem one_same (b : List Int) (h1 : (oneR b true).2.2 = 0) (h2 : (oneR b false).2.2 = 0) : (oneR b true).2.1 = (oneR b false).2.1 := by
  unfold oneR at h1 h2 ⊢
  split at h1
  · cases h1
  · rename_i a1
    rw [if_neg a1] at h2 ⊢
    rw [if_neg a1]
    by_cases c0 : b.getD 0 0 / 64 = 0
    · rw [if_pos c0] at h1 h2 ⊢
      rw [if_pos c0]
      exact takeR_same b h1 h2
    · rw [if_neg c0] at h1 h2 ⊢
      rw [if_neg c0]
      by_cases c1 : b.getD 0 0 / 64 = 1
      · rw [if_pos c1] at h1 h2 ⊢
        rw [if_pos c1]
        exact takeD_same b h1 h2
      · rw [if_neg c1] at h1 h2 ⊢
        rw [if_neg c1]
        by_cases c2 : b.getD 0 0 / 64 = 2
        · rw [if_pos c2] at h1 h2 ⊢
          rw [if_pos c2]
          exact takePa_same b h1 h2
        · rw [if_neg c2] at h1 h2 ⊢
          rw [if_neg c2]
          exact takeDe_same b h1 h2
theorem one_nil (s : Bool) : oneR [] s = ([], [], 2) := by unfold oneR; exact if_pos rfl
/-- Runs that were laid down are passed, however many numbers are wanted. -/
theorem putF_pass (s : Bool) : ∀ (n : Nat) (l : List Int), l.length ≤ n → I64 l → l.all (keepB s) = true → ∀ (f : Nat) (out : List Int), l.length < f →
    ∃ p, putF s f out l = (out ++ p, 0) ∧ U8 p ∧ p.length ≤ 10 * l.length ∧
      (∀ (many g : Nat) (outT r : List Int), outT.length + l.length ≤ many → p.length + r.length < g → ∃ g', r.length < g' ∧ takeF s many g outT (p ++ r) = takeF s many g' (outT ++ l) r) ∧
      (s = false → ∀ (many g : Nat) (outT : List Int), l.length < many → p.length < g → (takeF true many g outT p).2.2 ≠ 0 ∨ ∃ (_ : Nat) (p' : List Int), (takeF true many g outT p).2.1 = p' ∧ ∀ g2, p'.length < g2 → (takeF false many g2 [] p').2.2 ≠ 0) := by
  intro n
  induction n with
  | zero =>
    intro l hl hu hk f out hf
    obtain rfl : l = [] := List.eq_nil_of_length_eq_zero (by omega)
    cases f with
    | zero => omega
    | succ f =>
      refine ⟨[], by rw [putF, List.append_nil]; exact if_pos rfl, fun y hy => (by cases hy), by simp, fun many g outT r hm hg => ⟨g, by simpa using hg, by rw [List.nil_append, List.append_nil]⟩, fun _ many g outT hm hg => ?_⟩
      have hone : ∀ s, oneR [] s = ([], [], 2) := fun s => by unfold oneR; exact if_pos rfl
      have hzero : ∀ g2, 0 < g2 → (takeF false many g2 [] []).2.2 ≠ 0 := by
        intro g2 hg2
        cases g2 with
        | zero => omega
        | succ g2 =>
          rw [takeF, if_neg (by simp at hm ⊢; omega), hone, if_pos (.inl (by simp))]
          simp
      cases g with
      | zero => simp at hg
      | succ g =>
        rw [takeF]
        split
        · exact .inr ⟨0, [], rfl, hzero⟩
        · left
          rw [hone, if_pos (.inl (by simp))]
          simp
  | succ n ih =>
    intro l hl hu hk f out hf
    rcases Nat.eq_zero_or_pos l.length with h0 | h0
    · exact ih l (by omega) hu hk f out hf
    · cases f with
      | zero => omega
      | succ f =>
        have hc := cutL_range l h0
        obtain ⟨k, hkk⟩ : ∃ k, k = cutL l := ⟨_, rfl⟩
        rw [← hkk] at hc
        have hkt := all_part l (keepB s) k hk
        have hut : I64 (l.take k) := fun y hy => hu y (List.mem_of_mem_take hy)
        have hud : I64 (l.drop k) := fun y hy => hu y (List.mem_of_mem_drop hy)
        have hlt : (l.take k).length = k := by rw [List.length_take]; omega
        have hld : (l.drop k).length = l.length - k := List.length_drop
        obtain ⟨q, hq, hq2, hql, ⟨j, hj, hcand⟩, _⟩ := run_ok (l.take k) s hut (keep_run _ _ hkt.1 (by omega) (by omega))
        obtain ⟨hq8, hqb⟩ := cand_back (l.take k) hut s hkt.1 (by omega) (by omega) j q hcand
        obtain ⟨p, hp, hp8, hpl, hpb, hpc⟩ := ih (l.drop k) (by omega) hud hkt.2 f (out ++ q) (by omega)
        have hpass : ∀ (many g : Nat) (outT r : List Int), outT.length + l.length ≤ many → (q ++ p).length + r.length < g → ∃ g', r.length < g' ∧ takeF s many g outT ((q ++ p) ++ r) = takeF s many g' (outT ++ l) r := by
          intro many g outT r hm hg
          rw [List.length_append] at hg
          cases g with
          | zero => omega
          | succ g =>
            obtain ⟨g', h1, h2⟩ := hpb many g (outT ++ l.take k) r (by rw [List.length_append, hlt, hld]; omega) (by omega)
            refine ⟨g', h1, ?_⟩
            rw [takeF, if_neg (by omega), List.append_assoc, hqb]
            dsimp only
            rw [if_neg (by rw [hlt]; omega), h2, List.append_assoc, List.take_append_drop]
        refine ⟨q ++ p, ?_, ?_, by rw [List.length_append]; omega, hpass, fun hs many g outT hm hg => ?_⟩
        · rw [putF, if_neg (by omega), ← hkk, hq, if_neg (by simp)]
          dsimp only
          rw [hp, List.append_assoc]
        · intro y hy
          rcases List.mem_append.1 hy with h | h
          · exact hq8 y h
          · exact hp8 y h
        · subst hs
          rw [List.length_append] at hg
          cases g with
          | zero => omega
          | succ g =>
            rw [takeF]
            split
            · refine .inr ⟨0, _, rfl, fun g2 hg2 => ?_⟩
              obtain ⟨g', h1, h2⟩ := hpass many g2 [] [] (by simp; omega) (by simpa using hg2)
              rw [List.append_nil, List.nil_append] at h2
              rw [h2]
              cases g' with
              | zero => omega
              | succ g' =>
                rw [takeF, if_neg (by omega), one_nil, if_pos (.inl (by simp))]
                simp
            · split
              · left; simp
              · rename_i hbad
                have he : (oneR (q ++ p) true).2.2 = 0 := Decidable.not_not.1 fun h => hbad (.inl h)
                have hsame := one_same (q ++ p) he (by rw [hqb p])
                rw [hqb p] at hsame
                dsimp only at hsame
                rw [hsame]
                exact hpc rfl many g _ (by omega) (by omega)
end Go.Proofs.YtbmooemlekckbaaDoor

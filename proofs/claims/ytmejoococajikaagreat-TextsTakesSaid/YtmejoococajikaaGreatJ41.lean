/- Joined texts: PlainGm, PlainGq, TxT, TxO, TxW. Each has its own head line. No condition beyond those that its theorems state. -/
import Derived.Shelf.SlSorted.IsSorted
import Derived.Test.YtmejoococajikaaGreatJ39
import Derived.Test.YtmejoococajikaaGreatJ40
import Derived.Test.YtmejoococajikaaGreatJ34
set_option linter.unusedVariables false

/- Rle: plain: numbers that are not below 0; a run's bytes are the same, whether signed; one number more is not there. -/
namespace Go.Proofs.YtmejoococajikaaGreat
open Go.RowKit

theorem takeD_pos (b : List Int) : ∀ y ∈ (takeD b false).1, 0 ≤ y := by
  have hnil : ∀ y ∈ ([] : List Int), (0 : Int) ≤ y := fun y hy => by cases hy
  have hu := unpackR_u64 (lookR b).2.2.2.1 (lookR b).2.2.1 (wOf (lookR b).2.1)
  unfold takeD
  split
  · exact hnil
  · split
    · exact hnil
    · split
      · exact hnil
      · dsimp only
        unfold madeL mapOk
        rw [if_neg (by simp)]
        split
        · dsimp only
          rw [List.map_id]
          exact fun y hy => (hu y hy).1
        · exact hnil
theorem takePa_pos (b : List Int) : ∀ y ∈ (takePa b false).1, 0 ≤ y := by
  have hbad : ∀ y ∈ badT.1, (0 : Int) ≤ y := fun y hy => by cases hy
  unfold takePa
  split
  · exact hbad
  · unfold takeP2
    split
    · exact hbad
    · unfold takeP2b
      split
      · exact hbad
      · unfold takeP3
        split
        · exact hbad
        · unfold takeP4
          split
          · exact hbad
          · split
            · rename_i h
              intro y hy
              obtain ⟨u, hu, rfl⟩ := List.mem_map.1 hy
              have := List.all_eq_true.1 h u hu
              unfold sumOk at this
              simp only [Bool.false_or, Bool.and_eq_true, decide_eq_true_eq] at this
              exact this.2
            · exact hbad
theorem stepsDe_pos (f : Bool) (Z : List Int) : ∀ (x : Int) (l : List Int), stepsDe f false x Z = some l → ∀ y ∈ l, 0 ≤ y := by
  induction Z with
  | nil => intro x l h; rw [stepsDe_nil] at h; injection h with h; subst h; exact fun y hy => (by cases hy)
  | cons u t ih =>
    intro x l h
    simp only [stepsDe] at h
    split at h
    · rename_i h1
      rw [Option.map_eq_some_iff] at h
      obtain ⟨l2, h2, rfl⟩ := h
      intro y hy
      rcases List.mem_cons.1 hy with rfl | hy
      · rcases h1.2 with h3 | h3
        · cases h3
        · exact h3
      · exact ih _ l2 h2 y hy
    · cases h
theorem takeI_pos (b : List Int) : 0 ≤ (takeI b false).1 := by
  unfold takeI
  split
  · simp
  · rw [if_neg (by simp)]
    split
    · simp
    · dsimp only; omega
theorem finDe_pos (x : Int) (r : List Int) (o : Option (List Int)) (hx : 0 ≤ x) (h : ∀ l, o = some l → ∀ y ∈ l, 0 ≤ y) : ∀ y ∈ (finDe x r o).1, 0 ≤ y := by
  cases o with
  | none => exact fun y hy => (by cases hy)
  | some l =>
    intro y hy
    rcases List.mem_cons.1 hy with rfl | hy
    · exact hx
    · exact h l rfl y hy
theorem takeDe_pos (b : List Int) : ∀ y ∈ (takeDe b false).1, 0 ≤ y := by
  have hnil : ∀ y ∈ ([] : List Int), (0 : Int) ≤ y := fun y hy => by cases hy
  unfold takeDe
  split
  · exact hnil
  · split
    · exact hnil
    · split
      · exact hnil
      · split
        · exact hnil
        · split
          · exact hnil
          · exact finDe_pos _ _ _ (takeI_pos _) (fun l h => stepsDe_pos _ _ _ l h)
theorem takeR_pos (b : List Int) : 0 ≤ (takeR b false).1 := by
  unfold takeR
  split
  · simp
  · split
    · simp
    · split
      · simp
      · split
        · simp
        · dsimp only
          rw [if_neg (by simp)]
          omega
theorem one_pos (b : List Int) : ∀ y ∈ (oneR b false).1, 0 ≤ y := by
  unfold oneR
  split
  · exact fun y hy => (by cases hy)
  · split
    · intro y hy
      rw [List.eq_of_mem_replicate hy]
      exact takeR_pos b
    · split
      · exact takeD_pos b
      · split
        · exact takePa_pos b
        · exact takeDe_pos b
theorem takeF_pos (many : Nat) : ∀ (f : Nat) (out b : List Int), (∀ y ∈ out, 0 ≤ y) → ∀ y ∈ (takeF false many f out b).1, 0 ≤ y := by
  intro f
  induction f with
  | zero => intro out b _ y hy; cases hy
  | succ f ih =>
    intro out b ho
    rw [takeF]
    split
    · exact ho
    · split
      · exact fun y hy => (by cases hy)
      · refine ih _ _ (fun y hy => ?_)
        rcases List.mem_append.1 hy with h | h
        · exact ho y h
        · exact one_pos b y h
theorem takeGl_pos (b : List Int) (many : Int) : ∀ y ∈ (takeGl b many false).1, 0 ≤ y := by
  unfold takeGl
  split
  · exact fun y hy => (by cases hy)
  · exact takeF_pos _ _ _ _ (fun y hy => (by cases hy))
/-- Just so many numbers are taken. -/
theorem takeF_many (s : Bool) (many : Nat) : ∀ (f : Nat) (out b : List Int), out.length ≤ many → (takeF s many f out b).2.2 = 0 → (takeF s many f out b).1.length = many := by
  intro f
  induction f with
  | zero => intro out b _ h; cases h
  | succ f ih =>
    intro out b ho
    rw [takeF]
    split
    · intro _; dsimp only; omega
    · split
      · intro h; cases h
      · rename_i h1
        exact ih _ _ (by rw [List.length_append]; omega)
theorem takeGl_many (b : List Int) (many : Int) (s : Bool) (h : (takeGl b many s).2.2 = 0) : ((takeGl b many s).1.length : Int) = many := by
  unfold takeGl at h ⊢
  split at h
  · cases h
  · rename_i h1
    rw [if_neg h1]
    have := takeF_many s many.toNat (b.length + 1) [] b (Nat.zero_le _) h
    omega
theorem takeF_rest (s : Bool) (many : Nat) : ∀ (f : Nat) (out b : List Int), U8 b → U8 (takeF s many f out b).2.1 ∧ (takeF s many f out b).2.1.length ≤ b.length := by
  intro f
  induction f with
  | zero => intro out b _; exact ⟨fun y hy => (by cases hy), Nat.zero_le _⟩
  | succ f ih =>
    intro out b hb
    rw [takeF]
    split
    · exact ⟨hb, Nat.le_refl _⟩
    · split
      · exact ⟨fun y hy => (by cases hy), Nat.zero_le _⟩
      · rename_i h1
        have h2 := one_rest b s hb
        have h3 := ih (out ++ (oneR b s).1) _ h2.1
        have h4 := h2.2 (Decidable.not_not.1 fun h => h1 (.inl h))
        exact ⟨h3.1, by omega⟩
theorem takeGl_rest (b : List Int) (many : Int) (s : Bool) (hb : U8 b) : U8 (takeGl b many s).2.1 ∧ (takeGl b many s).2.1.length ≤ b.length := by
  unfold takeGl
  split
  · exact ⟨fun y hy => (by cases hy), Nat.zero_le _⟩
  · exact takeF_rest _ _ _ _ _ hb
/-- What stands behind a run is the same, whether signed. -/
theorem takeR_same (b : List Int) (h1 : (takeR b true).2.2.2 = 0) (h2 : (takeR b false).2.2.2 = 0) : (takeR b true).2.2.1 = (takeR b false).2.2.1 := by
  unfold takeR at h1 h2 ⊢
  cases b with
  | nil => rfl
  | cons c r =>
    dsimp only at h1 h2 ⊢
    split at h1
    · cases h1
    · rename_i a1
      rw [if_neg a1] at h2 ⊢
      split at h1
      · cases h1
      · rename_i a2
        rw [if_neg a2] at h2 ⊢
        split at h1
        · cases h1
        · rename_i a3
          rw [if_neg a3]
          rw [if_neg a1, if_neg a2]
          split at h2
          · cases h2
          · rename_i a4; rw [if_neg a4]
theorem takeD_same (b : List Int) (h1 : (takeD b true).2.2 = 0) (h2 : (takeD b false).2.2 = 0) : (takeD b true).2.1 = (takeD b false).2.1 := by
  unfold takeD at h1 h2 ⊢
  split at h1
  · cases h1
  · rename_i a1
    rw [if_neg a1] at h2 ⊢
    rw [if_neg a1]
    split at h1
    · cases h1
    · rename_i a2
      rw [if_neg a2] at h2 ⊢
      rw [if_neg a2]
      split at h1
      · cases h1
      · rename_i a3
        rw [if_neg a3]
        split at h2
        · cases h2
        · rename_i a4; rw [if_neg a4]
theorem takeP4_rest (B : Int) (s : Bool) (o : Option (List Int × Nat)) (r : List Int) (h : (takeP4 B s o r).2.2 = 0) : (takeP4 B s o r).2.1 = r := by
  cases o with
  | none => cases h
  | some q =>
    have e : takeP4 B s (some q) r = if q.1.all (sumOk B s) then (sumL B q.1, r, 0) else badT := rfl
    rw [e] at h ⊢
    split at h
    · rename_i h1; rw [if_pos h1]
    · cases h
theorem takePa_same (b : List Int) (h1 : (takePa b true).2.2 = 0) (h2 : (takePa b false).2.2 = 0) : (takePa b true).2.1 = (takePa b false).2.1 := by
  unfold takePa at h1 h2 ⊢
  split at h1
  · cases h1
  · rename_i a1
    rw [if_neg a1] at h2 ⊢
    rw [if_neg a1]
    unfold takeP2 at h1 h2 ⊢
    split at h1
    · cases h1
    · rename_i a2
      rw [if_neg a2] at h2 ⊢
      rw [if_neg a2]
      unfold takeP2b at h1 h2 ⊢
      split at h1
      · cases h1
      · rename_i a3
        rw [if_neg a3] at h2 ⊢
        rw [if_neg a3]
        unfold takeP3 at h1 h2 ⊢
        split at h1
        · cases h1
        · rename_i a4
          rw [if_neg a4] at h2 ⊢
          rw [if_neg a4]
          rw [takeP4_rest _ _ _ _ h1, takeP4_rest _ _ _ _ h2]
theorem takeI_same (b : List Int) (h1 : (takeI b true).2.2 = 0) (h2 : (takeI b false).2.2 = 0) : (takeI b true).2.1 = (takeI b false).2.1 := by
  unfold takeI at h1 h2 ⊢
  split at h1
  · cases h1
  · rename_i a1
    rw [if_neg a1] at h2 ⊢
    rw [if_neg a1, if_pos rfl, if_neg (by simp)]
    rw [if_neg (by simp)] at h2
    split at h2
    · cases h2
    · rename_i a2; rw [if_neg a2]
theorem finDe_rest2 (x : Int) (r : List Int) (o : Option (List Int)) (h : (finDe x r o).2.2 = 0) : (finDe x r o).2.1 = r := by
  cases o with
  | none => cases h
  | some l => rfl
theorem takeDe_rest_eq (b : List Int) (s : Bool) (h : (takeDe b s).2.2 = 0) : (takeI (lookR b).2.2.2.1 s).2.2 = 0 ∧
    (takeDe b s).2.1 = if 0 < (lookR b).2.1 then (unpackR (takeI (takeI (lookR b).2.2.2.1 s).2.1 true).2.1 ((lookR b).2.2.1 - 2) (wOf (lookR b).2.1)).2.1 else (takeI (takeI (lookR b).2.2.2.1 s).2.1 true).2.1 := by
  unfold takeDe at h ⊢
  split at h
  · cases h
  · rename_i a1
    rw [if_neg a1]
    split at h
    · cases h
    · rename_i a2
      rw [if_neg a2]
      split at h
      · cases h
      · rename_i a3
        rw [if_neg a3]
        split at h
        · cases h
        · rename_i a4
          rw [if_neg a4]
          split at h
          · cases h
          · rename_i a5
            rw [if_neg a5]
            exact ⟨Decidable.not_not.1 a2, finDe_rest2 _ _ _ h⟩
theorem takeDe_same (b : List Int) (h1 : (takeDe b true).2.2 = 0) (h2 : (takeDe b false).2.2 = 0) : (takeDe b true).2.1 = (takeDe b false).2.1 := by
  obtain ⟨k1, k2⟩ := takeDe_rest_eq b true h1
  obtain ⟨k3, k4⟩ := takeDe_rest_eq b false h2
  rw [k2, k4, takeI_same _ k1 k3]
theorem one_same (b : List Int) (h1 : (oneR b true).2.2 = 0) (h2 : (oneR b false).2.2 = 0) : (oneR b true).2.1 = (oneR b false).2.1 := by
  unfold oneR at h1 h2 ⊢
  split at h1
  · cases h1
  · rename_i a1
    rw [if_neg a1] at h2 ⊢
    rw [if_neg a1]
    by_cases c0 : b.getD 0 0 / 64 = 0
    · rw [if_pos c0] at h1 h2 ⊢
      rw [if_pos c0]
      exact takeR_same b h1 h2
    · rw [if_neg c0] at h1 h2 ⊢
      rw [if_neg c0]
      by_cases c1 : b.getD 0 0 / 64 = 1
      · rw [if_pos c1] at h1 h2 ⊢
        rw [if_pos c1]
        exact takeD_same b h1 h2
      · rw [if_neg c1] at h1 h2 ⊢
        rw [if_neg c1]
        by_cases c2 : b.getD 0 0 / 64 = 2
        · rw [if_pos c2] at h1 h2 ⊢
          rw [if_pos c2]
          exact takePa_same b h1 h2
        · rw [if_neg c2] at h1 h2 ⊢
          rw [if_neg c2]
          exact takeDe_same b h1 h2
theorem one_nil (s : Bool) : oneR [] s = ([], [], 2) := by unfold oneR; exact if_pos rfl
/-- Runs that were laid down are passed, however many numbers are wanted. -/
theorem putF_pass (s : Bool) : ∀ (n : Nat) (l : List Int), l.length ≤ n → I64 l → l.all (keepB s) = true → ∀ (f : Nat) (out : List Int), l.length < f →
    ∃ p, putF s f out l = (out ++ p, 0) ∧ U8 p ∧ p.length ≤ 10 * l.length ∧
      (∀ (many g : Nat) (outT r : List Int), outT.length + l.length ≤ many → p.length + r.length < g → ∃ g', r.length < g' ∧ takeF s many g outT (p ++ r) = takeF s many g' (outT ++ l) r) ∧
      (s = false → ∀ (many g : Nat) (outT : List Int), l.length < many → p.length < g → (takeF true many g outT p).2.2 ≠ 0 ∨ ∃ (_ : Nat) (p' : List Int), (takeF true many g outT p).2.1 = p' ∧ ∀ g2, p'.length < g2 → (takeF false many g2 [] p').2.2 ≠ 0) := by
  intro n
  induction n with
  | zero =>
    intro l hl hu hk f out hf
    obtain rfl : l = [] := List.eq_nil_of_length_eq_zero (by omega)
    cases f with
    | zero => omega
    | succ f =>
      refine ⟨[], by rw [putF, List.append_nil]; exact if_pos rfl, fun y hy => (by cases hy), by simp, fun many g outT r hm hg => ⟨g, by simpa using hg, by rw [List.nil_append, List.append_nil]⟩, fun _ many g outT hm hg => ?_⟩
      have hone : ∀ s, oneR [] s = ([], [], 2) := fun s => by unfold oneR; exact if_pos rfl
      have hzero : ∀ g2, 0 < g2 → (takeF false many g2 [] []).2.2 ≠ 0 := by
        intro g2 hg2
        cases g2 with
        | zero => omega
        | succ g2 =>
          rw [takeF, if_neg (by simp at hm ⊢; omega), hone, if_pos (.inl (by simp))]
          simp
      cases g with
      | zero => simp at hg
      | succ g =>
        rw [takeF]
        split
        · exact .inr ⟨0, [], rfl, hzero⟩
        · left
          rw [hone, if_pos (.inl (by simp))]
          simp
  | succ n ih =>
    intro l hl hu hk f out hf
    rcases Nat.eq_zero_or_pos l.length with h0 | h0
    · exact ih l (by omega) hu hk f out hf
    · cases f with
      | zero => omega
      | succ f =>
        have hc := cutL_range l h0
        obtain ⟨k, hkk⟩ : ∃ k, k = cutL l := ⟨_, rfl⟩
        rw [← hkk] at hc
        have hkt := all_part l (keepB s) k hk
        have hut : I64 (l.take k) := fun y hy => hu y (List.mem_of_mem_take hy)
        have hud : I64 (l.drop k) := fun y hy => hu y (List.mem_of_mem_drop hy)
        have hlt : (l.take k).length = k := by rw [List.length_take]; omega
        have hld : (l.drop k).length = l.length - k := List.length_drop
        obtain ⟨q, hq, hq2, hql, ⟨j, hj, hcand⟩, _⟩ := run_ok (l.take k) s hut (keep_run _ _ hkt.1 (by omega) (by omega))
        obtain ⟨hq8, hqb⟩ := cand_back (l.take k) hut s hkt.1 (by omega) (by omega) j q hcand
        obtain ⟨p, hp, hp8, hpl, hpb, hpc⟩ := ih (l.drop k) (by omega) hud hkt.2 f (out ++ q) (by omega)
        have hpass : ∀ (many g : Nat) (outT r : List Int), outT.length + l.length ≤ many → (q ++ p).length + r.length < g → ∃ g', r.length < g' ∧ takeF s many g outT ((q ++ p) ++ r) = takeF s many g' (outT ++ l) r := by
          intro many g outT r hm hg
          rw [List.length_append] at hg
          cases g with
          | zero => omega
          | succ g =>
            obtain ⟨g', h1, h2⟩ := hpb many g (outT ++ l.take k) r (by rw [List.length_append, hlt, hld]; omega) (by omega)
            refine ⟨g', h1, ?_⟩
            rw [takeF, if_neg (by omega), List.append_assoc, hqb]
            dsimp only
            rw [if_neg (by rw [hlt]; omega), h2, List.append_assoc, List.take_append_drop]
        refine ⟨q ++ p, ?_, ?_, by rw [List.length_append]; omega, hpass, fun hs many g outT hm hg => ?_⟩
        · rw [putF, if_neg (by omega), ← hkk, hq, if_neg (by simp)]
          dsimp only
          rw [hp, List.append_assoc]
        · intro y hy
          rcases List.mem_append.1 hy with h | h
          · exact hq8 y h
          · exact hp8 y h
        · subst hs
          rw [List.length_append] at hg
          cases g with
          | zero => omega
          | succ g =>
            rw [takeF]
            split
            · refine .inr ⟨0, _, rfl, fun g2 hg2 => ?_⟩
              obtain ⟨g', h1, h2⟩ := hpass many g2 [] [] (by simp; omega) (by simpa using hg2)
              rw [List.append_nil, List.nil_append] at h2
              rw [h2]
              cases g' with
              | zero => omega
              | succ g' =>
                rw [takeF, if_neg (by omega), one_nil, if_pos (.inl (by simp))]
                simp
            · split
              · left; simp
              · rename_i hbad
                have he : (oneR (q ++ p) true).2.2 = 0 := Decidable.not_not.1 fun h => hbad (.inl h)
                have hsame := one_same (q ++ p) he (by rw [hqb p])
                rw [hqb p] at hsame
                dsimp only at hsame
                rw [hsame]
                exact hpc rfl many g _ (by omega) (by omega)
end Go.Proofs.YtmejoococajikaaGreat

/- Rle: plain: what is taken are numbers, and not too many. -/
namespace Go.Proofs.YtmejoococajikaaGreat
open Go.RowKit

theorem takeF_good (s : Bool) (many : Nat) : ∀ (f : Nat) (out b : List Int), U8 b → I64 out → out.length ≤ many → I64 (takeF s many f out b).1 ∧ (takeF s many f out b).1.length ≤ many := by
  have hnil : I64 [] := fun y hy => by cases hy
  intro f
  induction f with
  | zero => intro out b _ _ _; exact ⟨hnil, Nat.zero_le _⟩
  | succ f ih =>
    intro out b hb ho hl
    rw [takeF]
    split
    · exact ⟨ho, hl⟩
    · split
      · exact ⟨hnil, Nat.zero_le _⟩
      · rename_i h
        have h1 := one_good b s hb
        have h2 := one_rest b s hb
        refine ih _ _ h2.1 (fun y hy => ?_) (by rw [List.length_append]; omega)
        rcases List.mem_append.1 hy with h3 | h3
        · exact ho y h3
        · exact h1.1 y h3
theorem takeGl_good (b : List Int) (many : Int) (s : Bool) (hb : U8 b) : I64 (takeGl b many s).1 ∧ (takeGl b many s).1.length ≤ 4096 := by
  unfold takeGl
  split
  · exact ⟨fun y hy => (by cases hy), Nat.zero_le _⟩
  · have := takeF_good s many.toNat (b.length + 1) [] b hb (fun y hy => (by cases hy)) (Nat.zero_le _)
    exact ⟨this.1, by omega⟩
end Go.Proofs.YtmejoococajikaaGreat

/- Texts: taken: the model; numbers (real). -/
namespace Go.Proofs.YtmejoococajikaaGreat
open Go.RowKit

/-- So many numbers, and nothing behind them. -/
def numsT (b : List Int) (many : Int) : List Int × Int :=
  if (takeGl b many false).2.2 ≠ 0 ∨ (takeGl b many false).2.1 ≠ [] then ([], 2) else ((takeGl b many false).1, 0)
theorem numsT_nn (b : List Int) (many : Int) : ∀ y ∈ (numsT b many).1, 0 ≤ y := by
  unfold numsT
  split
  · exact fun y hy => by cases hy
  · exact takeGl_pos b many
theorem numsT_good (b : List Int) (many : Int) (hb : U8 b) : I64 (numsT b many).1 ∧ (numsT b many).1.length ≤ 4096 := by
  unfold numsT
  split
  · exact ⟨fun y hy => (by cases hy), Nat.zero_le _⟩
  · exact takeGl_good b many false hb
theorem numsT_len (b : List Int) (many : Int) (h : (numsT b many).2 = 0) : ((numsT b many).1.length : Int) = many := by
  unfold numsT at h ⊢
  split
  · rename_i h1; rw [if_pos h1] at h; cases h
  · rename_i h1
    exact takeGl_many b many false (Decidable.not_not.1 fun h2 => h1 (.inl h2))
theorem numsT_er (b : List Int) (many : Int) : (numsT b many).2 = 0 ∨ (numsT b many = ([], 2)) := by
  unfold numsT
  split
  · exact .inr rfl
  · exact .inl rfl
/-- Bytes cut into texts, by their lengths. -/
def cutX : List Int → List Int → Option (List ByteArray)
  | b, [] => if b = [] then some [] else none
  | b, k :: r => if 300 < k ∨ (b.length : Int) < k then none else (cutX (b.drop k.toNat) r).map (strOf (b.take k.toNat) :: ·)
def optT : Option (List ByteArray) → List ByteArray × Int
  | none => ([], 2)
  | some l => (l, 0)
def cutT (b lens : List Int) (many : Int) : List ByteArray × Int :=
  if (numsT lens many).2 ≠ 0 then ([], 2) else optT (cutX b (numsT lens many).1)
/-- Texts by their places among words. -/
def indexT (W : List ByteArray) : List Int → Option (List ByteArray)
  | [] => some []
  | i :: r => match W[i.toNat]? with
    | none => none
    | some s => (indexT W r).map (s :: ·)
def risingB (W : List ByteArray) : Bool := (List.range (W.length - 1)).all fun i => decide ((W.getD i ⟨#[]⟩).data.toList < (W.getD (i + 1) ⟨#[]⟩).data.toList)
def streamT (S : List (Int × List Int)) (i : Nat) : List Int := (S.getD i (0, [])).2
/-- What a column is taken as. -/
def takeT (c : ColT) : List ByteArray × Int :=
  if c.many < 0 ∨ 4096 < c.many then ([], 1)
  else if c.enc = 1 ∧ c.st.map Prod.fst = [2, 3] then cutT (streamT c.st 0) (streamT c.st 1) c.many
  else if c.enc = 2 ∧ c.st.map Prod.fst = [2, 3, 4] ∧ 0 ≤ c.texts ∧ c.texts ≤ 4096 then
    if (numsT (streamT c.st 0) c.many).2 ≠ 0 ∨ (cutT (streamT c.st 2) (streamT c.st 1) c.texts).2 ≠ 0 ∨ risingB (cutT (streamT c.st 2) (streamT c.st 1) c.texts).1 = false then ([], 2)
    else optT (indexT (cutT (streamT c.st 2) (streamT c.st 1) c.texts).1 (numsT (streamT c.st 0) c.many).1)
  else ([], 2)
def NumsOut (w : World) (l : List Int) (er : Int) (e : Ending) (w' : World) : Prop :=
  ∃ G n c, e = .returned (.tuple #[.slice G n c, .int .i64 er]) ∧ Sl w' .i64 G n c l ∧ Below w.heap.size w w'
def StrErr (w : World) (l : List ByteArray) (er : Int) (e : Ending) (w' : World) : Prop :=
  ∃ G n c, e = .returned (.tuple #[.slice G n c, .int .i64 er]) ∧ Rs w' G n l ∧ n ≤ c ∧ c ≤ 9223372036854775807 ∧ Below w.heap.size w w'

set_option maxRecDepth 100000 in
set_option maxHeartbeats 2000000 in
theorem numbers_any (w : World) (A : Option Addr) (n cap : Nat) (b : List Int) (hr : Ri w .u8 A n b) (hu : U8 b) (hc : n ≤ cap) (hm : cap ≤ 9223372036854775807) (hn : n ≤ 100000) (many : Int) :
    Calls Tryz.prog 48 #[.slice A n cap, .int .i64 many] w (NumsOut w (numsT b many).1 (numsT b many).2) := by
  have HR := Lib.hid hr; have HU := Lib.hid hu
  clear hr hu
  obtain ⟨l, r, er, hp⟩ : ∃ l r er, takeGl b many false = (l, r, er) := ⟨_, _, _, rfl⟩
  have HP := Lib.hid hp
  have HN : Hid (numsT b many = if er ≠ 0 ∨ r ≠ [] then ([], 2) else (l, 0)) := Lib.hid (by unfold numsT; rw [hp])
  clear hp
  go_enter Tryz.func48, Tryz.ntmps48
  go_wp2_with fail
  refine (TakeGl_any w A n cap b HR.out HU.out hc hm hn many false l r er HP.out).mono ?_; rintro e w1 ⟨G, n1, c1, G2, n2, c2, rfl, hs1, hs2, hb1⟩
  have HS1 := Lib.hid hs1; have HB1 := Lib.hid hb1
  have hl2 := hs2.1.len
  clear hs1 hs2 hb1
  by_cases he : er = 0
  · subst he
    by_cases h2 : n2 = 0
    · have hr0 : r = [] := List.eq_nil_of_length_eq_zero (by omega)
      have HV : Hid (numsT b many = (l, 0)) := Lib.hid (by rw [HN.out, if_neg (by rw [hr0]; simp)])
      have t1 : decide ((0 : Int) < n2) = false := decide_eq_false (by omega)
      go_wp2_with fail
      go_ret2
      rw [HV.out]
      exact ⟨_, _, _, rfl, HS1.out, HB1.out⟩
    · have HV : Hid (numsT b many = ([], 2)) := Lib.hid (by rw [HN.out, if_pos (.inr fun h => h2 (by rw [← hl2, h]; rfl))])
      have t1 : decide ((0 : Int) < n2) = true := decide_eq_true (by omega)
      go_wp2_with fail
      go_ret2
      rw [HV.out]
      exact ⟨_, _, _, rfl, Sl.nil _ _, HB1.out⟩
  · have HV : Hid (numsT b many = ([], 2)) := Lib.hid (by rw [HN.out, if_pos (.inl he)])
    have t1 : (er != 0) = true := by simp [he]
    go_wp2_with fail
    go_ret2
    rw [HV.out]
    exact ⟨_, _, _, rfl, Sl.nil _ _, HB1.out⟩

theorem strOf_extract (b : List Int) (k : Nat) : (strOf b).extract 0 k = strOf (b.take k) := by
  refine key_inj ?_
  show ((strOfNums b).extract 0 k).data.toList = (strOfNums (b.take k)).data.toList
  rw [strOfNums_data]
  simp [strOfNums_data]
theorem strOf_rest (b : List Int) (k : Nat) : (strOf b).extract k b.length = strOf (b.drop k) := by
  refine key_inj ?_
  show ((strOfNums b).extract k b.length).data.toList = (strOfNums (b.drop k)).data.toList
  rw [strOfNums_data]
  simp [strOfNums_data]
  rw [List.take_of_length_le (by rw [List.length_drop, List.length_map]; omega)]
theorem strOf_size (b : List Int) : (strOf b).size = b.length := by
  have h : (strOfNums b).data.toList.length = b.length := by rw [strOfNums_data]; simp
  rw [Array.length_toList] at h
  exact h
end Go.Proofs.YtmejoococajikaaGreat

/- slices.IsSorted of texts: its contract, laid here. -/
namespace Go.Proofs.YtmejoococajikaaGreat
open Go.RowKit Go.Shelf

def isSorted_ren : Go.Shelf.Ren := ⟨fun | 11 => 49 | 19 => 70 | 25 => 109 | n => n, fun | 25 => 22 | 27 => 9 | 0 => 0 | 3 => 3 | 4 => 4 | n => n, fun | n => n⟩
theorem isSorted_lays : Go.Proofs.SlLaysO.n11 Tryz.prog isSorted_ren := {
  mixed := by kernel_rfl
  f11 := ⟨Tryz.f49.name, by decide, Tryz.func49.trans (congrArg some (by kernel_rfl))⟩
  f19 := ⟨Tryz.f70.name, by decide, Tryz.func70.trans (congrArg some (by kernel_rfl))⟩
  f25 := ⟨Tryz.f109.name, by decide, Tryz.func109.trans (congrArg some (by kernel_rfl))⟩
  t0 := Tryz.underlying0
  a0 := Tryz.isAgg0
  z0 := Tryz.sizeOf0
  v0 := Tryz.zeroValue0
  t3 := Tryz.underlying3
  a3 := Tryz.isAgg3
  z3 := Tryz.sizeOf3
  v3 := Tryz.zeroValue3
  t4 := Tryz.underlying4
  a4 := Tryz.isAgg4
  z4 := Tryz.sizeOf4
  v4 := Tryz.zeroValue4
  t25 := Tryz.underlying22
  a25 := Tryz.isAgg22
  z25 := Tryz.sizeOf22
  v25 := Tryz.zeroValue22
  t27 := Tryz.underlying9
  a27 := Tryz.isAgg9
  z27 := Tryz.sizeOf9
  v27 := Tryz.zeroValue9 }
/-- Texts that don't fall. -/
def upB (W : List ByteArray) : Bool := Lib.downOK (fun x y : ByteArray => decide (x.data.toList < y.data.toList)) W.toArray (W.length - 1)
theorem isSorted_any (w : World) (A : Option Addr) (n c : Nat) (l : List ByteArray) (hr : Rs w A n l) (hn : n ≤ 1000000) :
    Calls Tryz.prog 49 #[.slice A n c] w fun e w' => e = .returned (.bool (upB l)) ∧ ∃ q, w' = w.drewN q := by
  have hl := hr.len
  rcases Nat.eq_zero_or_pos n with rfl | h0
  · obtain rfl : l = [] := List.eq_nil_of_length_eq_zero hl
    refine (AnyO.slices_IsSorted_string_none isSorted_lays A c w).mono ?_
    rintro e w' ⟨rfl, rfl⟩
    exact ⟨rfl, 0, rfl⟩
  · obtain ⟨b, o, rfl, hb, hc⟩ := hr.all h0
    have h := AnyO.slices_IsSorted_string isSorted_lays b o c l.toArray w (fun i hi => by
      have hi' : i < l.length := by simpa using hi
      rw [hc i hi', getElem!_pos l.toArray i hi]
      simp) (by simp; omega)
    have he : l.toArray.size = n := by simp; exact hl
    rw [he] at h
    refine Calls.mono h ?_
    rintro e w' ⟨rfl, q, rfl⟩
    exact ⟨by unfold upB; rw [hl], q, rfl⟩
end Go.Proofs.YtmejoococajikaaGreat

/- Texts, plain: words that rise; how many texts are cut; texts by their places. -/
namespace Go.Proofs.YtmejoococajikaaGreat
open Go.RowKit

theorem cutX_len {b l : List Int} {O : List ByteArray} (h : cutX b l = some O) : O.length = l.length := by
  induction l generalizing b O with
  | nil =>
    unfold cutX at h
    split at h
    · injection h with h; subst h; rfl
    · cases h
  | cons k r ih =>
    unfold cutX at h
    split at h
    · cases h
    · cases hc : cutX (b.drop k.toNat) r with
      | none => rw [hc] at h; cases h
      | some O2 =>
        rw [hc] at h
        injection h with h
        subst h
        rw [List.length_cons, List.length_cons, ih hc]
theorem cutT_len (b lens : List Int) (many : Int) (hu : U8 lens) : (cutT b lens many).1.length ≤ 4096 := by
  unfold cutT
  split
  · exact Nat.zero_le _
  · cases hc : cutX b (numsT lens many).1 with
    | none => exact Nat.zero_le _
    | some O =>
      show O.length ≤ 4096
      rw [cutX_len hc]
      exact (numsT_good lens many hu).2
theorem adj_rising {W : List ByteArray} (h : ∀ i, i + 1 < W.length → (W.getD i ⟨#[]⟩).data.toList < (W.getD (i + 1) ⟨#[]⟩).data.toList) : Rising W := by
  unfold Rising
  rw [List.pairwise_iff_getElem]
  have key : ∀ d i, (hi : i + d + 1 < W.length) → (W[i]'(by omega)).data.toList < (W[i + d + 1]'hi).data.toList := by
    intro d
    induction d with
    | zero =>
      intro i hi
      have := h i hi
      rwa [List.getD_eq_getElem?_getD, List.getD_eq_getElem?_getD, List.getElem?_eq_getElem (by omega), List.getElem?_eq_getElem hi] at this
    | succ d ih =>
      intro i hi
      have h1 := ih i (by omega)
      have h2 := h (i + d + 1) hi
      rw [List.getD_eq_getElem?_getD, List.getD_eq_getElem?_getD, List.getElem?_eq_getElem (by omega), List.getElem?_eq_getElem (show i + d + 1 + 1 < W.length by omega)] at h2
      exact List.lt_trans h1 h2
  intro i j hi hj hij
  have := key (j - i - 1) i (by omega)
  have e : i + (j - i - 1) + 1 = j := by omega
  simpa only [e] using this
theorem risingB_iff (W : List ByteArray) : risingB W = true ↔ Rising W := by
  unfold risingB
  rw [List.all_eq_true]
  constructor
  · intro h
    refine adj_rising fun i hi => ?_
    have := h i (List.mem_range.2 (by omega))
    simpa using this
  · intro h i hi
    have hi := List.mem_range.1 hi
    have := List.pairwise_iff_getElem.1 h i (i + 1) (by omega) (by omega) (by omega)
    rw [decide_eq_true_eq, List.getD_eq_getElem?_getD, List.getD_eq_getElem?_getD, List.getElem?_eq_getElem (by omega), List.getElem?_eq_getElem (by omega)]
    exact this
theorem nodup_of_len {α : Type} [DecidableEq α] {W l : List α} (hW : W.Nodup) (hs : ∀ x, x ∈ W ↔ x ∈ l) (hl : l.length ≤ W.length) : l.Nodup := by
  rw [List.nodup_iff_count]
  intro a
  refine Nat.le_of_not_lt fun h => ?_
  have ha : a ∈ l := List.count_pos_iff.1 (by omega)
  have h2 : W.length ≤ (l.erase a).length := nodup_len hW fun x hx => by
    by_cases e : x = a
    · subst e
      exact List.count_pos_iff.1 (by rw [List.count_erase_self]; omega)
    · exact (List.mem_erase_of_ne e).2 ((hs x).1 hx)
  rw [List.length_erase_of_mem ha] at h2
  have := List.length_pos_of_mem ha
  omega
theorem upB_iff (W : List ByteArray) : upB W = true ↔ ∀ i (hi : i + 1 < W.length), ¬ W[i + 1].data.toList < (W[i]'(by omega)).data.toList := by
  unfold upB
  rw [Lib.downOK_iff]
  constructor
  · intro h i hi
    have := h i (by omega)
    rw [getElem!_pos W.toArray (i + 1) (by simpa using hi), getElem!_pos W.toArray i (by simp; omega)] at this
    simpa using this
  · intro h i hi
    have := h i (by omega)
    rw [getElem!_pos W.toArray (i + 1) (by simp; omega), getElem!_pos W.toArray i (by simp; omega)]
    simpa using this
/-- What the program asks of words: that none stands twice, and that none falls: that they rise. -/
theorem words_up {W l : List ByteArray} (hW : IsWords W l) : (decide (W.length < l.length) || !upB l) = !risingB l := by
  by_cases hr : Rising l
  · have e : W = l := hW.unique ⟨hr, fun _ => Iff.rfl⟩
    subst e
    rw [(risingB_iff W).2 hr, decide_eq_false (by omega)]
    have : upB W = true := (upB_iff W).2 fun i hi h => by
      have := List.pairwise_iff_getElem.1 hr i (i + 1) (by omega) hi (by omega)
      exact List.lt_irrefl _ (List.lt_trans h this)
    rw [this]; rfl
  · have h0 : risingB l = false := by
      cases h : risingB l with
      | false => rfl
      | true => exact absurd ((risingB_iff l).1 h) hr
    rw [h0]
    by_cases hl : W.length < l.length
    · rw [decide_eq_true hl]; rfl
    · rw [decide_eq_false hl]
      cases hu : upB l with
      | false => rfl
      | true =>
        refine absurd (adj_rising fun i hi => ?_) hr
        have h1 := (upB_iff l).1 hu i hi
        have hn := nodup_of_len hW.up.nodup hW.mem (by omega)
        rw [List.getD_eq_getElem?_getD, List.getD_eq_getElem?_getD, List.getElem?_eq_getElem (by omega), List.getElem?_eq_getElem hi]
        show (l[i]'(by omega)).data.toList < l[i + 1].data.toList
        rcases List.le_iff_lt_or_eq.1 (List.not_lt.1 h1) with h | h
        · exact h
        · exact absurd ((List.getElem_inj hn).1 (key_inj h)) (by omega)
theorem indexT_step {W : List ByteArray} {k : Nat} {r : List Int} (h : k < W.length) : indexT W ((k : Int) :: r) = (indexT W r).map (W[k] :: ·) := by
  rw [indexT, Int.toNat_natCast, List.getElem?_eq_getElem h]
theorem indexT_bad {W : List ByteArray} {k : Nat} {r : List Int} (h : W.length ≤ k) : indexT W ((k : Int) :: r) = none := by
  rw [indexT, Int.toNat_natCast, List.getElem?_eq_none h]
end Go.Proofs.YtmejoococajikaaGreat

/- Joined texts: IntV, PlainGm, PlainBB, PlainIn. Each has its own head line. No condition beyond those that its theorems state. -/
import Derived.Laws.StructEq
import Derived.Laws.BitsLemmas
import Derived.Test.YtbmooemlekckbaaGreatDoorJ05
import Derived.Test.YtbmooemlekckbaaGreatDoorJ38
import Derived.Test.YtbmooemlekckbaaGreatDoorJ31
import Derived.Test.YtbmooemlekckbaaGreatDoorJ16
set_option linter.unusedVariables false

/- Ints: which kinds are of numbers, which values may be of one; a number's parts. -/
namespace Go.Proofs.YtbmooemlekckbaaGreatDoor
open Go.RowKit

def isNum (k : Int) : Bool := decide (1 ≤ k ∧ k ≤ 5)
/-- A value that is something, and may be of a kind of numbers. -/
def okI (k : Int) (v : Val) : Bool := !v.null && (v.s.toList.isEmpty && (decide (k ≠ 1) || (decide (v.n = 0) || decide (v.n = 1))))
def numV (n : Int) : Val := ⟨false, n, ⟨#[]⟩⟩
theorem num_cases {k : Int} (h : isNum k = true) : k = 1 ∨ k = 2 ∨ k = 3 ∨ k = 4 ∨ k = 5 := by
  have := of_decide_eq_true h
  omega
set_option maxHeartbeats 400000 in
theorem Number_any (w : World) (k : Int) :
    Calls Tryz.prog 12 #[.int .i64 k] w fun e w' => e = .returned (.bool (isNum k)) ∧ w = w' := by
  cases hk : isNum k
  · have h := of_decide_eq_false hk
    have h1 : (k == 1) = false := by simp; omega
    have h2 : (k == 2) = false := by simp; omega
    have h3 : (k == 3) = false := by simp; omega
    have h4 : (k == 4) = false := by simp; omega
    have h5 : (k == 5) = false := by simp; omega
    clear h hk
    go_enter Tryz.func12, Tryz.ntmps12
    go_wp2_with fail
    go_ret
    exact ⟨rfl, rfl⟩
  · rcases num_cases hk with rfl | rfl | rfl | rfl | rfl
    all_goals
      clear hk
      go_enter Tryz.func12, Tryz.ntmps12
      go_wp2_with fail
      go_ret
      exact ⟨rfl, rfl⟩
theorem and_not_one (b : BitVec 64) : (b &&& ~~~(1#64)).toNat = b.toNat - b.toNat % 2 := by
  have h : b &&& ~~~(1#64) = (b >>> 1) <<< 1 := by
    apply BitVec.eq_of_getLsbD_eq
    intro i hi
    simp only [BitVec.getLsbD_and, BitVec.getLsbD_not, BitVec.getLsbD_shiftLeft, BitVec.getLsbD_ushiftRight]
    rcases Nat.eq_zero_or_pos i with rfl | h0
    · simp
    · have h1 : (1#64).getLsbD i = false := by
        rw [BitVec.getLsbD_one]
        simp; omega
      rw [h1]
      have h2 : ¬ i < 1 := by omega
      simp [hi, h2, show 1 + (i - 1) = i from by omega]
  rw [h, BitVec.toNat_shiftLeft, BitVec.toNat_ushiftRight, Nat.shiftRight_eq_div_pow, Nat.shiftLeft_eq]
  have := b.isLt
  rw [Nat.mod_eq_of_lt (by omega)]
  omega
theorem andNot_one (n : Int) (h : -9223372036854775808 ≤ n ∧ n < 9223372036854775808) : (bits BinOp.andNot IntKind.i64 n 1 == 0) = (decide (n = 0) || decide (n = 1)) := by
  have e : bits BinOp.andNot IntKind.i64 n 1 = IntKind.i64.wrap (((BitVec.ofInt 64 n) &&& ~~~(1#64)).toNat : Int) := rfl
  rw [e, and_not_one, BitVec.toNat_ofInt]
  have hm : ((n % (2 ^ 64 : Nat)).toNat : Int) = n % 18446744073709551616 := by omega
  generalize (n % (2 ^ 64 : Nat)).toNat = m at *
  have hw : IntKind.i64.wrap ((m - m % 2 : Nat) : Int) = 0 ↔ (m - m % 2 : Nat) = 0 := by
    have h3 : IntKind.i64.wrap ((m - m % 2 : Nat) : Int) = (((m - m % 2 : Nat) : Int) + 9223372036854775808) % 18446744073709551616 - 9223372036854775808 := by rw [IntKind.wrap_i64]
    rw [h3]; omega
  rw [Bool.eq_iff_iff]
  simp only [beq_iff_eq, Bool.or_eq_true, decide_eq_true_eq]
  rw [hw]
  omega

set_option maxRecDepth 100000 in
set_option maxHeartbeats 1000000 in
theorem May_any (w : World) (k : Int) (hk : isNum k = true) (v : Val) (hn : -9223372036854775808 ≤ v.n ∧ v.n < 9223372036854775808) (hv : v.null = false) :
    Calls Tryz.prog 13 #[.int .i64 k, .agg #[.bool false, .int .i64 v.n, .string v.s]] w fun e w' => e = .returned (.bool (okI k v)) ∧ Below w.heap.size w w' := by
  have hok : okI k v = (v.s.toList.isEmpty && (decide (k ≠ 1) || (decide (v.n = 0) || decide (v.n = 1)))) := by unfold okI; rw [hv]; rfl
  have hb := andNot_one v.n hn
  rw [← hb] at hok
  have HOK := Lib.hid hok
  clear hok hb hv hn
  have hk2 := hk
  rcases num_cases hk with rfl | rfl | rfl | rfl | rfl
  all_goals
    cases hs : v.s.toList.isEmpty
    all_goals
      go_enter Tryz.func13, Tryz.ntmps13
      go_wp2_with fail
      refine (Number_any _ _).mono ?_; rintro e w' ⟨rfl, rfl⟩
      rw [hk2]
      go_wp2_with fail
      all_goals
        go_ret
        refine ⟨?_, (Below.refl w.heap.size w).alloc (Nat.le_refl _) _⟩
        rw [HOK.out, hs]
        first
          | rfl
          | (simp; done)
end Go.Proofs.YtbmooemlekckbaaGreatDoor

/- Rle: plain: numbers that are not below 0; a run's bytes are the same, whether signed; one number more is not there. -/
namespace Go.Proofs.YtbmooemlekckbaaGreatDoor
open Go.RowKit

theorem takeD_pos (b : List Int) : ∀ y ∈ (takeD b false).1, 0 ≤ y := by
  have hnil : ∀ y ∈ ([] : List Int), (0 : Int) ≤ y := fun y hy => by cases hy
  have hu := unpackR_u64 (lookR b).2.2.2.1 (lookR b).2.2.1 (wOf (lookR b).2.1)
  unfold takeD
  split
  · exact hnil
  · split
    · exact hnil
    · split
      · exact hnil
      · dsimp only
        unfold madeL mapOk
        rw [if_neg (by simp)]
        split
        · dsimp only
          rw [List.map_id]
          exact fun y hy => (hu y hy).1
        · exact hnil
theorem takePa_pos (b : List Int) : ∀ y ∈ (takePa b false).1, 0 ≤ y := by
  have hbad : ∀ y ∈ badT.1, (0 : Int) ≤ y := fun y hy => by cases hy
  unfold takePa
  split
  · exact hbad
  · unfold takeP2
    split
    · exact hbad
    · unfold takeP2b
      split
      · exact hbad
      · unfold takeP3
        split
        · exact hbad
        · unfold takeP4
          split
          · exact hbad
          · split
            · rename_i h
              intro y hy
              obtain ⟨u, hu, rfl⟩ := List.mem_map.1 hy
              have := List.all_eq_true.1 h u hu
              unfold sumOk at this
              simp only [Bool.false_or, Bool.and_eq_true, decide_eq_true_eq] at this
              exact this.2
            · exact hbad
theorem stepsDe_pos (f : Bool) (Z : List Int) : ∀ (x : Int) (l : List Int), stepsDe f false x Z = some l → ∀ y ∈ l, 0 ≤ y := by
  induction Z with
  | nil => intro x l h; rw [stepsDe_nil] at h; injection h with h; subst h; exact fun y hy => (by cases hy)
  | cons u t ih =>
    intro x l h
    simp only [stepsDe] at h
    split at h
    · rename_i h1
      rw [Option.map_eq_some_iff] at h
      obtain ⟨l2, h2, rfl⟩ := h
      intro y hy
      rcases List.mem_cons.1 hy with rfl | hy
      · rcases h1.2 with h3 | h3
        · cases h3
        · exact h3
      · exact ih _ l2 h2 y hy
    · cases h
theorem takeI_pos (b : List Int) : 0 ≤ (takeI b false).1 := by
  unfold takeI
  split
  · simp
  · rw [if_neg (by simp)]
    split
    · simp
    · dsimp only; omega
theorem finDe_pos (x : Int) (r : List Int) (o : Option (List Int)) (hx : 0 ≤ x) (h : ∀ l, o = some l → ∀ y ∈ l, 0 ≤ y) : ∀ y ∈ (finDe x r o).1, 0 ≤ y := by
  cases o with
  | none => exact fun y hy => (by cases hy)
  | some l =>
    intro y hy
    rcases List.mem_cons.1 hy with rfl | hy
    · exact hx
    · exact h l rfl y hy
theorem takeDe_pos (b : List Int) : ∀ y ∈ (takeDe b false).1, 0 ≤ y := by
  have hnil : ∀ y ∈ ([] : List Int), (0 : Int) ≤ y := fun y hy => by cases hy
  unfold takeDe
  split
  · exact hnil
  · split
    · exact hnil
    · split
      · exact hnil
      · split
        · exact hnil
        · split
          · exact hnil
          · exact finDe_pos _ _ _ (takeI_pos _) (fun l h => stepsDe_pos _ _ _ l h)
theorem takeR_pos (b : List Int) : 0 ≤ (takeR b false).1 := by
  unfold takeR
  split
  · simp
  · split
    · simp
    · split
      · simp
      · split
        · simp
        · dsimp only
          rw [if_neg (by simp)]
          omega
theorem one_pos (b : List Int) : ∀ y ∈ (oneR b false).1, 0 ≤ y := by
  unfold oneR
  split
  · exact fun y hy => (by cases hy)
  · split
    · intro y hy
      rw [List.eq_of_mem_replicate hy]
      exact takeR_pos b
    · split
      · exact takeD_pos b
      · split
        · exact takePa_pos b
        · exact takeDe_pos b
theorem takeF_pos (many : Nat) : ∀ (f : Nat) (out b : List Int), (∀ y ∈ out, 0 ≤ y) → ∀ y ∈ (takeF false many f out b).1, 0 ≤ y := by
  intro f
  induction f with
  | zero => intro out b _ y hy; cases hy
  | succ f ih =>
    intro out b ho
    rw [takeF]
    split
    · exact ho
    · split
      · exact fun y hy => (by cases hy)
      · refine ih _ _ (fun y hy => ?_)
        rcases List.mem_append.1 hy with h | h
        · exact ho y h
        · exact one_pos b y h
theorem takeGl_pos (b : List Int) (many : Int) : ∀ y ∈ (takeGl b many false).1, 0 ≤ y := by
  unfold takeGl
  split
  · exact fun y hy => (by cases hy)
  · exact takeF_pos _ _ _ _ (fun y hy => (by cases hy))
/-- Just so many numbers are taken. -/
theorem takeF_many (s : Bool) (many : Nat) : ∀ (f : Nat) (out b : List Int), out.length ≤ many → (takeF s many f out b).2.2 = 0 → (takeF s many f out b).1.length = many := by
  intro f
  induction f with
  | zero => intro out b _ h; cases h
  | succ f ih =>
    intro out b ho
    rw [takeF]
    split
    · intro _; dsimp only; omega
    · split
      · intro h; cases h
      · rename_i h1
        exact ih _ _ (by rw [List.length_append]; omega)
theorem takeGl_many (b : List Int) (many : Int) (s : Bool) (h : (takeGl b many s).2.2 = 0) : ((takeGl b many s).1.length : Int) = many := by
  unfold takeGl at h ⊢
  split at h
  · cases h
  · rename_i h1
    rw [if_neg h1]
    have := takeF_many s many.toNat (b.length + 1) [] b (Nat.zero_le _) h
    omega
theorem takeF_rest (s : Bool) (many : Nat) : ∀ (f : Nat) (out b : List Int), U8 b → U8 (takeF s many f out b).2.1 ∧ (takeF s many f out b).2.1.length ≤ b.length := by
  intro f
  induction f with
  | zero => intro out b _; exact ⟨fun y hy => (by cases hy), Nat.zero_le _⟩
  | succ f ih =>
    intro out b hb
    rw [takeF]
    split
    · exact ⟨hb, Nat.le_refl _⟩
    · split
      · exact ⟨fun y hy => (by cases hy), Nat.zero_le _⟩
      · rename_i h1
        have h2 := one_rest b s hb
        have h3 := ih (out ++ (oneR b s).1) _ h2.1
        have h4 := h2.2 (Decidable.not_not.1 fun h => h1 (.inl h))
        exact ⟨h3.1, by omega⟩
theorem takeGl_rest (b : List Int) (many : Int) (s : Bool) (hb : U8 b) : U8 (takeGl b many s).2.1 ∧ (takeGl b many s).2.1.length ≤ b.length := by
  unfold takeGl
  split
  · exact ⟨fun y hy => (by cases hy), Nat.zero_le _⟩
  · exact takeF_rest _ _ _ _ _ hb
/-- What stands behind a run is the same, whether signed. -/
theorem takeR_same (b : List Int) (h1 : (takeR b true).2.2.2 = 0) (h2 : (takeR b false).2.2.2 = 0) : (takeR b true).2.2.1 = (takeR b false).2.2.1 := by
  unfold takeR at h1 h2 ⊢
  cases b with
  | nil => rfl
  | cons c r =>
    dsimp only at h1 h2 ⊢
    split at h1
    · cases h1
    · rename_i a1
      rw [if_neg a1] at h2 ⊢
      split at h1
      · cases h1
      · rename_i a2
        rw [if_neg a2] at h2 ⊢
        split at h1
        · cases h1
        · rename_i a3
          rw [if_neg a3]
          rw [if_neg a1, if_neg a2]
          split at h2
          · cases h2
          · rename_i a4; rw [if_neg a4]
theorem takeD_same (b : List Int) (h1 : (takeD b true).2.2 = 0) (h2 : (takeD b false).2.2 = 0) : (takeD b true).2.1 = (takeD b false).2.1 := by
  unfold takeD at h1 h2 ⊢
  split at h1
  · cases h1
  · rename_i a1
    rw [if_neg a1] at h2 ⊢
    rw [if_neg a1]
    split at h1
    · cases h1
    · rename_i a2
      rw [if_neg a2] at h2 ⊢
      rw [if_neg a2]
      split at h1
      · cases h1
      · rename_i a3
        rw [if_neg a3]
        split at h2
        · cases h2
        · rename_i a4; rw [if_neg a4]
theorem takeP4_rest (B : Int) (s : Bool) (o : Option (List Int × Nat)) (r : List Int) (h : (takeP4 B s o r).2.2 = 0) : (takeP4 B s o r).2.1 = r := by
  cases o with
  | none => cases h
  | some q =>
    have e : takeP4 B s (some q) r = if q.1.all (sumOk B s) then (sumL B q.1, r, 0) else badT := rfl
    rw [e] at h ⊢
    split at h
    · rename_i h1; rw [if_pos h1]
    · cases h
theorem takePa_same (b : List Int) (h1 : (takePa b true).2.2 = 0) (h2 : (takePa b false).2.2 = 0) : (takePa b true).2.1 = (takePa b false).2.1 := by
  unfold takePa at h1 h2 ⊢
  split at h1
  · cases h1
  · rename_i a1
    rw [if_neg a1] at h2 ⊢
    rw [if_neg a1]
    unfold takeP2 at h1 h2 ⊢
    split at h1
    · cases h1
    · rename_i a2
      rw [if_neg a2] at h2 ⊢
      rw [if_neg a2]
      unfold takeP2b at h1 h2 ⊢
      split at h1
      · cases h1
      · rename_i a3
        rw [if_neg a3] at h2 ⊢
        rw [if_neg a3]
        unfold takeP3 at h1 h2 ⊢
        split at h1
        · cases h1
        · rename_i a4
          rw [if_neg a4] at h2 ⊢
          rw [if_neg a4]
          rw [takeP4_rest _ _ _ _ h1, takeP4_rest _ _ _ _ h2]
theorem takeI_same (b : List Int) (h1 : (takeI b true).2.2 = 0) (h2 : (takeI b false).2.2 = 0) : (takeI b true).2.1 = (takeI b false).2.1 := by
  unfold takeI at h1 h2 ⊢
  split at h1
  · cases h1
  · rename_i a1
    rw [if_neg a1] at h2 ⊢
    rw [if_neg a1, if_pos rfl, if_neg (by simp)]
    rw [if_neg (by simp)] at h2
    split at h2
    · cases h2
    · rename_i a2; rw [if_neg a2]
theorem finDe_rest2 (x : Int) (r : List Int) (o : Option (List Int)) (h : (finDe x r o).2.2 = 0) : (finDe x r o).2.1 = r := by
  cases o with
  | none => cases h
  | some l => rfl
theorem takeDe_rest_eq (b : List Int) (s : Bool) (h : (takeDe b s).2.2 = 0) : (takeI (lookR b).2.2.2.1 s).2.2 = 0 ∧
    (takeDe b s).2.1 = if 0 < (lookR b).2.1 then (unpackR (takeI (takeI (lookR b).2.2.2.1 s).2.1 true).2.1 ((lookR b).2.2.1 - 2) (wOf (lookR b).2.1)).2.1 else (takeI (takeI (lookR b).2.2.2.1 s).2.1 true).2.1 := by
  unfold takeDe at h ⊢
  split at h
  · cases h
  · rename_i a1
    rw [if_neg a1]
    split at h
    · cases h
    · rename_i a2
      rw [if_neg a2]
      split at h
      · cases h
      · rename_i a3
        rw [if_neg a3]
        split at h
        · cases h
        · rename_i a4
          rw [if_neg a4]
          split at h
          · cases h
          · rename_i a5
            rw [if_neg a5]
            exact ⟨Decidable.not_not.1 a2, finDe_rest2 _ _ _ h⟩
theorem takeDe_same (b : List Int) (h1 : (takeDe b true).2.2 = 0) (h2 : (takeDe b false).2.2 = 0) : (takeDe b true).2.1 = (takeDe b false).2.1 := by
  obtain ⟨k1, k2⟩ := takeDe_rest_eq b true h1
  obtain ⟨k3, k4⟩ := takeDe_rest_eq b false h2
  rw [k2, k4, takeI_same _ k1 k3]
theorem one_same (b : List Int) (h1 : (oneR b true).2.2 = 0) (h2 : (oneR b false).2.2 = 0) : (oneR b true).2.1 = (oneR b false).2.1 := by
  unfold oneR at h1 h2 ⊢
  split at h1
  · cases h1
  · rename_i a1
    rw [if_neg a1] at h2 ⊢
    rw [if_neg a1]
    by_cases c0 : b.getD 0 0 / 64 = 0
    · rw [if_pos c0] at h1 h2 ⊢
      rw [if_pos c0]
      exact takeR_same b h1 h2
    · rw [if_neg c0] at h1 h2 ⊢
      rw [if_neg c0]
      by_cases c1 : b.getD 0 0 / 64 = 1
      · rw [if_pos c1] at h1 h2 ⊢
        rw [if_pos c1]
        exact takeD_same b h1 h2
      · rw [if_neg c1] at h1 h2 ⊢
        rw [if_neg c1]
        by_cases c2 : b.getD 0 0 / 64 = 2
        · rw [if_pos c2] at h1 h2 ⊢
          rw [if_pos c2]
          exact takePa_same b h1 h2
        · rw [if_neg c2] at h1 h2 ⊢
          rw [if_neg c2]
          exact takeDe_same b h1 h2
theorem one_nil (s : Bool) : oneR [] s = ([], [], 2) := by unfold oneR; exact if_pos rfl
/-- Runs that were laid down are passed, however many numbers are wanted. -/
theorem putF_pass (s : Bool) : ∀ (n : Nat) (l : List Int), l.length ≤ n → I64 l → l.all (keepB s) = true → ∀ (f : Nat) (out : List Int), l.length < f →
    ∃ p, putF s f out l = (out ++ p, 0) ∧ U8 p ∧ p.length ≤ 10 * l.length ∧
      (∀ (many g : Nat) (outT r : List Int), outT.length + l.length ≤ many → p.length + r.length < g → ∃ g', r.length < g' ∧ takeF s many g outT (p ++ r) = takeF s many g' (outT ++ l) r) ∧
      (s = false → ∀ (many g : Nat) (outT : List Int), l.length < many → p.length < g → (takeF true many g outT p).2.2 ≠ 0 ∨ ∃ (_ : Nat) (p' : List Int), (takeF true many g outT p).2.1 = p' ∧ ∀ g2, p'.length < g2 → (takeF false many g2 [] p').2.2 ≠ 0) := by
  intro n
  induction n with
  | zero =>
    intro l hl hu hk f out hf
    obtain rfl : l = [] := List.eq_nil_of_length_eq_zero (by omega)
    cases f with
    | zero => omega
    | succ f =>
      refine ⟨[], by rw [putF, List.append_nil]; exact if_pos rfl, fun y hy => (by cases hy), by simp, fun many g outT r hm hg => ⟨g, by simpa using hg, by rw [List.nil_append, List.append_nil]⟩, fun _ many g outT hm hg => ?_⟩
      have hone : ∀ s, oneR [] s = ([], [], 2) := fun s => by unfold oneR; exact if_pos rfl
      have hzero : ∀ g2, 0 < g2 → (takeF false many g2 [] []).2.2 ≠ 0 := by
        intro g2 hg2
        cases g2 with
        | zero => omega
        | succ g2 =>
          rw [takeF, if_neg (by simp at hm ⊢; omega), hone, if_pos (.inl (by simp))]
          simp
      cases g with
      | zero => simp at hg
      | succ g =>
        rw [takeF]
        split
        · exact .inr ⟨0, [], rfl, hzero⟩
        · left
          rw [hone, if_pos (.inl (by simp))]
          simp
  | succ n ih =>
    intro l hl hu hk f out hf
    rcases Nat.eq_zero_or_pos l.length with h0 | h0
    · exact ih l (by omega) hu hk f out hf
    · cases f with
      | zero => omega
      | succ f =>
        have hc := cutL_range l h0
        obtain ⟨k, hkk⟩ : ∃ k, k = cutL l := ⟨_, rfl⟩
        rw [← hkk] at hc
        have hkt := all_part l (keepB s) k hk
        have hut : I64 (l.take k) := fun y hy => hu y (List.mem_of_mem_take hy)
        have hud : I64 (l.drop k) := fun y hy => hu y (List.mem_of_mem_drop hy)
        have hlt : (l.take k).length = k := by rw [List.length_take]; omega
        have hld : (l.drop k).length = l.length - k := List.length_drop
        obtain ⟨q, hq, hq2, hql, ⟨j, hj, hcand⟩, _⟩ := run_ok (l.take k) s hut (keep_run _ _ hkt.1 (by omega) (by omega))
        obtain ⟨hq8, hqb⟩ := cand_back (l.take k) hut s hkt.1 (by omega) (by omega) j q hcand
        obtain ⟨p, hp, hp8, hpl, hpb, hpc⟩ := ih (l.drop k) (by omega) hud hkt.2 f (out ++ q) (by omega)
        have hpass : ∀ (many g : Nat) (outT r : List Int), outT.length + l.length ≤ many → (q ++ p).length + r.length < g → ∃ g', r.length < g' ∧ takeF s many g outT ((q ++ p) ++ r) = takeF s many g' (outT ++ l) r := by
          intro many g outT r hm hg
          rw [List.length_append] at hg
          cases g with
          | zero => omega
          | succ g =>
            obtain ⟨g', h1, h2⟩ := hpb many g (outT ++ l.take k) r (by rw [List.length_append, hlt, hld]; omega) (by omega)
            refine ⟨g', h1, ?_⟩
            rw [takeF, if_neg (by omega), List.append_assoc, hqb]
            dsimp only
            rw [if_neg (by rw [hlt]; omega), h2, List.append_assoc, List.take_append_drop]
        refine ⟨q ++ p, ?_, ?_, by rw [List.length_append]; omega, hpass, fun hs many g outT hm hg => ?_⟩
        · rw [putF, if_neg (by omega), ← hkk, hq, if_neg (by simp)]
          dsimp only
          rw [hp, List.append_assoc]
        · intro y hy
          rcases List.mem_append.1 hy with h | h
          · exact hq8 y h
          · exact hp8 y h
        · subst hs
          rw [List.length_append] at hg
          cases g with
          | zero => omega
          | succ g =>
            rw [takeF]
            split
            · refine .inr ⟨0, _, rfl, fun g2 hg2 => ?_⟩
              obtain ⟨g', h1, h2⟩ := hpass many g2 [] [] (by simp; omega) (by simpa using hg2)
              rw [List.append_nil, List.nil_append] at h2
              rw [h2]
              cases g' with
              | zero => omega
              | succ g' =>
                rw [takeF, if_neg (by omega), one_nil, if_pos (.inl (by simp))]
                simp
            · split
              · left; simp
              · rename_i hbad
                have he : (oneR (q ++ p) true).2.2 = 0 := Decidable.not_not.1 fun h => hbad (.inl h)
                have hsame := one_same (q ++ p) he (by rw [hqb p])
                rw [hqb p] at hsame
                dsimp only at hsame
                rw [hsame]
                exact hpc rfl many g _ (by omega) (by omega)
end Go.Proofs.YtbmooemlekckbaaGreatDoor

/- Plain law: truths that were laid down are taken as they were. -/
namespace Go.Proofs.YtbmooemlekckbaaGreatDoor
open Go.RowKit

theorem bitAt_bytesOf (X N i : Nat) (hi : i < 8 * N) : bitAt (bytesOf X N) i = decide (X / 2 ^ (8 * N - 1 - i) % 2 = 1) := by
  unfold bitAt
  have hj : i / 8 < N := by omega
  rw [show (bytesOf X N).getD (i / 8) 0 = (byteAt X N (i / 8) : Int) from by simp [List.getD, bytesOf_get X N _ hj], Int.toNat_natCast]
  unfold byteAt
  rw [pow8, show (256 : Nat) = 2 ^ (7 - i % 8) * 2 ^ (8 - (7 - i % 8)) from by rw [← Nat.pow_add, show 7 - i % 8 + (8 - (7 - i % 8)) = 8 from by omega],
    Nat.mod_mul_right_div_self, Nat.div_div_eq_div_mul, ← Nat.pow_add, show 8 * (N - 1 - i / 8) + (7 - i % 8) = 8 * N - 1 - i from by omega,
    Nat.mod_mod_of_dvd _ (show 2 ∣ 2 ^ (8 - (7 - i % 8)) from ⟨2 ^ (i % 8), by rw [← Nat.pow_succ', show (i % 8).succ = 8 - (7 - i % 8) from by omega]⟩)]
theorem bit01_room (l : List Bool) : ∀ y ∈ bit01 l, y.toNat < 2 ^ 1 := by
  intro y hy
  obtain ⟨b, _, rfl⟩ := List.mem_map.1 hy
  cases b <;> decide
theorem bytesB_bit (l : List Bool) (i : Nat) (hi : i < 8 * ((l.length + 7) / 8)) : bitAt (bytesB l) i = l.getD i false := by
  unfold bytesB
  rw [bitAt_bytesOf _ _ _ hi]
  generalize hN : (l.length + 7) / 8 = N at *
  rcases Nat.lt_or_ge i l.length with h | h
  · rw [show 8 * N - 1 - i = 8 * N - l.length + (l.length - 1 - i) from by omega, Nat.pow_add, ← Nat.div_div_eq_div_mul, Nat.mul_div_cancel _ (Nat.two_pow_pos _)]
    have h1 := packV_get (bit01 l) 1 (bit01_room l) i (by rw [bit01_len]; exact h)
    rw [bit01_len, Nat.mul_one, Nat.pow_one] at h1
    rw [h1]
    simp only [bit01, List.getD, List.getElem?_map, List.getElem?_eq_getElem h, Option.map_some, Option.getD_some]
    cases l[i] <;> rfl
  · rw [show 8 * N - l.length = i + 1 - l.length + (8 * N - 1 - i) from by omega, Nat.pow_add, ← Nat.mul_assoc, Nat.mul_div_cancel _ (Nat.two_pow_pos _),
      show i + 1 - l.length = (i - l.length) + 1 from by omega, Nat.pow_succ, ← Nat.mul_assoc, Nat.mul_mod_left]
    simp [List.getD, List.getElem?_eq_none h]
theorem bytesB_len (l : List Bool) : (bytesB l).length = (l.length + 7) / 8 := by unfold bytesB; rw [bytesOf_len]
theorem bytesB_u8 (l : List Bool) : U8 (bytesB l) := by unfold bytesB; exact bytesOf_u8 _ _
theorem bitsB_bytesB (l : List Bool) : bitsB (bytesB l) l.length = l := by
  apply List.ext_getElem?
  intro i
  rcases Nat.lt_or_ge i l.length with h | h
  · simp only [bitsB, List.getElem?_map, List.getElem?_range h, Option.map_some]
    rw [bytesB_bit l i (by omega)]
    simp [List.getD, List.getElem?_eq_getElem h]
  · rw [List.getElem?_eq_none (by rw [bitsB_len]; exact h), List.getElem?_eq_none h]
theorem take_back (l : List Bool) (q : List Int) (h : l.length ≤ 4096) : takeB (enc 0 [] (bytesB l) ++ q) l.length = (l, q, 0) := by
  have hN : (bytesB l).length ≤ 4096 := by rw [bytesB_len]; omega
  have hd := dec_back (bytesB l) q hN
  rw [bytesB_len] at hd
  unfold takeB
  rw [if_neg (by omega), show ((l.length : Int) + 7) / 8 = (((l.length + 7) / 8 : Nat) : Int) from by omega, hd]
  rw [if_neg (by simp), Int.toNat_natCast]
  dsimp only
  rw [if_neg, bitsB_bytesB]
  rw [countB_zero]
  · omega
  · intro b hb
    obtain ⟨i, h1, h2, rfl⟩ := (mem_drop_bits _ _ _ _).1 hb
    rw [bytesB_len] at h2
    rw [bytesB_bit l i h2]
    simp [List.getD, List.getElem?_eq_none h1]
theorem put_takes (l : List Bool) (h : l.length ≤ 4096) : putB l = (enc 0 [] (bytesB l), 0) := by
  unfold putB encR
  rw [if_neg (by omega), if_neg (by rw [bytesB_len]; omega)]
end Go.Proofs.YtbmooemlekckbaaGreatDoor

/- Ints: plain: columns of numbers. -/
namespace Go.Proofs.YtbmooemlekckbaaGreatDoor
open Go.RowKit

def putIn (k : Int) (l : List Val) : List Int × Int :=
  if isNum k = false then ([], 1)
  else if 4096 < l.length then ([], 3)
  else if l.all (okI k) = false then ([], 21)
  else if k = 1 then putB (l.map fun v => decide (v.n = 1))
  else if k = 5 then ((putGl (l.map fun v => v.n / 1000) true).1 ++ (putGl (l.map fun v => v.n % 1000) false).1, 0)
  else putGl (l.map fun v => v.n) true
def mayT (q r : Int) : Bool := decide (r ≤ 999) && (decide (-9223372036854775808 ≤ 1000 * q + r) && decide (1000 * q + r ≤ 9223372036854775807))
/-- Truths taken; numbers taken. -/
def truthsR (b : List Int) (many : Int) : List Val × List Int × Int :=
  ((takeB b many).1.map fun x => numV (if x then 1 else 0), (takeB b many).2.1, (takeB b many).2.2)
def plainR (b : List Int) (many : Int) (t : Bool) : List Val × List Int × Int :=
  if (takeGl b many true).2.2 ≠ 0 then ([], [], (takeGl b many true).2.2)
  else if t = true then
    if (takeGl (takeGl b many true).2.1 many false).2.2 ≠ 0 then ([], [], (takeGl (takeGl b many true).2.1 many false).2.2)
    else if (((takeGl b many true).1.zip (takeGl (takeGl b many true).2.1 many false).1).all fun q => mayT q.1 q.2) = true then
      (((takeGl b many true).1.zip (takeGl (takeGl b many true).2.1 many false).1).map fun q => numV (1000 * q.1 + q.2), (takeGl (takeGl b many true).2.1 many false).2.1, 0)
    else ([], [], 2)
  else ((takeGl b many true).1.map numV, (takeGl b many true).2.1, 0)
def finI (q : List Val × List Int × Int) : List Val × Int := if q.2.2 ≠ 0 ∨ 0 < q.2.1.length then ([], 2) else (q.1, 0)
def takeIn (k : Int) (b : List Int) (many : Int) : List Val × Int :=
  if isNum k = false ∨ many < 0 ∨ 4096 < many then ([], 1)
  else if k = 1 then finI (truthsR b many) else finI (plainR b many (decide (k = 5)))
theorem whole_i64 (l : List Val) (h : ∀ v ∈ l, -9223372036854775808 ≤ v.n ∧ v.n < 9223372036854775808) : I64 (l.map fun v => v.n / 1000) ∧ I64 (l.map fun v => v.n % 1000) ∧ I64 (l.map fun v => v.n) ∧ (l.map fun v => v.n % 1000).all (keepB false) = true := by
  refine ⟨fun y hy => ?_, fun y hy => ?_, fun y hy => ?_, List.all_eq_true.2 fun y hy => ?_⟩
  all_goals
    obtain ⟨v, hv, rfl⟩ := List.mem_map.1 hy
    have := h v hv
  · omega
  · omega
  · exact this
  · unfold keepB; simp; omega
theorem keep_true (l : List Int) : l.all (keepB true) = true := List.all_eq_true.2 fun y _ => by simp [keepB]
theorem gl_ok (l : List Int) (s : Bool) (hu : I64 l) (hk : l.all (keepB s) = true) (h : l.length ≤ 4096) : ∃ p, putGl l s = (p, 0) ∧ U8 p ∧ p.length ≤ 50000 := by
  obtain ⟨p, h1, h2, h3, _⟩ := gl_back l s hu hk h
  exact ⟨p, h1, h2, h3⟩
theorem zip_snoc (l m : List Int) (i : Nat) (h1 : i < l.length) (h2 : i < m.length) : (l.zip m).take (i + 1) = (l.zip m).take i ++ [(l.getD i 0, m.getD i 0)] := by
  rw [List.take_succ_eq_append_getElem (by rw [List.length_zip]; omega)]
  simp [List.getD, List.getElem?_eq_getElem h1, List.getElem?_eq_getElem h2]
end Go.Proofs.YtbmooemlekckbaaGreatDoor

/- delta.step, delta.Take. -/
import Derived.Test.YtpgkbcgjjmdfiaaDiffs
import Derived.Test.YtpgkbcgjjmdfiaaRepeatU
import Derived.Test.YtpgkbcgjjmdfiaaUnp
import Derived.Test.YtpgkbcgjjmdfiaaMap8
import Derived.Test.YtpgkbcgjjmdfiaaPlainW
namespace Go.Proofs.Ytpgkbcgjjmdfiaa
open Go.RowKit

/-- The numbers that steps lead to. -/
def stepsDe (f s : Bool) : Int → List Int → Option (List Int)
  | _, [] => some []
  | x, u :: t => if (stepR x u f).2 = true ∧ (s = true ∨ 0 ≤ (stepR x u f).1) then (stepsDe f s (stepR x u f).1 t).map ((stepR x u f).1 :: ·) else none
def finDe (x : Int) (rest : List Int) : Option (List Int) → List Int × List Int × Int
  | none => ([], [], 2)
  | some l => (x :: l, rest, 0)
def takeDe (b : List Int) (s : Bool) : List Int × List Int × Int :=
  if (lookR b).2.2.2.2 ≠ 0 ∨ (lookR b).1 ≠ 3 ∨ (lookR b).2.2.1 < 2 then ([], [], 2)
  else if (takeI (lookR b).2.2.2.1 s).2.2 ≠ 0 then ([], [], 2)
  else if (takeI (takeI (lookR b).2.2.2.1 s).2.1 true).2.2 ≠ 0 then ([], [], 2)
  else if (diffR 0 (takeI (takeI (lookR b).2.2.2.1 s).2.1 true).1).2.2 = false then ([], [], 2)
  else if 0 < (lookR b).2.1 ∧ (unpackR (takeI (takeI (lookR b).2.2.2.1 s).2.1 true).2.1 ((lookR b).2.2.1 - 2) (wOf (lookR b).2.1)).2.2 ≠ 0 then ([], [], 2)
  else finDe (takeI (lookR b).2.2.2.1 s).1
      (if 0 < (lookR b).2.1 then (unpackR (takeI (takeI (lookR b).2.2.2.1 s).2.1 true).2.1 ((lookR b).2.2.1 - 2) (wOf (lookR b).2.1)).2.1 else (takeI (takeI (lookR b).2.2.2.1 s).2.1 true).2.1)
      (stepsDe (diffR 0 (takeI (takeI (lookR b).2.2.2.1 s).2.1 true).1).2.1 s (takeI (lookR b).2.2.2.1 s).1
        (if 0 < (lookR b).2.1 then (diffR 0 (takeI (takeI (lookR b).2.2.2.1 s).2.1 true).1).1 :: (unpackR (takeI (takeI (lookR b).2.2.2.1 s).2.1 true).2.1 ((lookR b).2.2.1 - 2) (wOf (lookR b).2.1)).1
         else List.replicate ((lookR b).2.2.1 - 1).toNat (diffR 0 (takeI (takeI (lookR b).2.2.2.1 s).2.1 true).1).1))
theorem stepsDe_nil (f s : Bool) (x : Int) : stepsDe f s x [] = some [] := by simp [stepsDe]
theorem stepsDe_good (f s : Bool) (x u : Int) (t acc : List Int) (h1 : (stepR x u f).2 = true) (h2 : s = true ∨ 0 ≤ (stepR x u f).1) :
    (stepsDe f s x (u :: t)).map (acc ++ ·) = (stepsDe f s (stepR x u f).1 t).map ((acc ++ [(stepR x u f).1]) ++ ·) := by
  simp only [stepsDe]
  rw [if_pos ⟨h1, h2⟩, Option.map_map]
  congr 1
  funext z
  simp
theorem stepsDe_bad (f s : Bool) (x u : Int) (t : List Int) (h : ¬ ((stepR x u f).2 = true ∧ (s = true ∨ 0 ≤ (stepR x u f).1))) : stepsDe f s x (u :: t) = none := by
  simp only [stepsDe]
  rw [if_neg h]

set_option maxRecDepth 100000 in
set_option maxHeartbeats 1000000 in
theorem step_any (w : World) (x u : Int) (f s ok : Bool) (hx : I64x x) (hu : 0 ≤ u ∧ u < 18446744073709551616) :
    Calls Try.prog 64 #[.int .i64 x, .int .u64 u, .bool f, .bool s, .bool ok] w fun e w' => e = .returned (.tuple #[.int .i64 (stepR x u f).1, .bool (ok && (stepR x u f).2 && (s || decide (0 ≤ (stepR x u f).1)))]) ∧ w = w' := by
  obtain ⟨y, k, hs⟩ : ∃ y k, stepR x u f = (y, k) := ⟨_, _, rfl⟩
  have HS := Lib.hid hs
  rw [hs]
  clear hs
  cases ok <;> cases k <;> cases s
  all_goals
    go_enter Try.func64, Try.ntmps64
    go_wp2_with fail
    refine (Step_any _ x u f hx hu y _ HS.out).mono ?_; rintro e w' ⟨rfl, rfl⟩
    go_wp2_with fail
    all_goals
      go_ret2
      exact ⟨by simp, rfl⟩
theorem unpackR_many (l : List Int) (m x : Int) (h : (unpackR l m x).2.2 = 0) : ((unpackR l m x).1.length : Int) = m := by
  unfold unpackR at h ⊢
  cases hf : fitsB m x
  · rw [hf] at h; simp at h
  · rw [hf] at h
    rw [if_neg (by simp)] at h ⊢
    have hx := of_decide_eq_true hf
    split
    · rename_i h2; rw [if_pos h2] at h; simp at h
    · rename_i h2
      rw [if_neg h2] at h
      simp only at h ⊢
      split
      · simp only [bitsL_len]; omega
      · rename_i h3; rw [if_neg h3] at h; simp at h
theorem takeI_len (b : List Int) (s : Bool) : (takeI b s).2.1.length ≤ b.length := by
  have h : (vtakeR b).2.1.length ≤ b.length := by
    unfold vtakeR
    split
    · simp
    · split
      · simp
      · simp
  unfold takeI
  split
  · simp
  · split
    · exact h
    · split
      · simp
      · exact h
theorem lookR_more (b : List Int) (hu : U8 b) : U8 (lookR b).2.2.2.1 ∧ ((lookR b).2.2.2.2 = 0 ∨ (lookR b).2.2.2.2 = 2) ∧ 0 ≤ (lookR b).2.1 ∧ (lookR b).2.1 < 32 ∧ 0 ≤ (lookR b).2.2.1 ∧ (lookR b).2.2.1 ≤ 512 := by
  unfold lookR
  split
  · exact ⟨fun x hx => by (cases hx), .inr rfl, by simp, by simp, by simp, by simp⟩
  · have h0 := getD_byte hu 0
    have h1 := getD_byte hu 1
    exact ⟨fun x hx => hu x (List.mem_of_mem_drop hx), .inl rfl, by dsimp only; omega, by dsimp only; omega, by dsimp only; omega, by dsimp only; omega⟩
theorem takeDe_eq {b : List Int} {s : Bool} {k c m x fi sz : Int} {r0 r1 r2 L r3 : List Int} {e0 e1 e2 e3 : Int} {fl ok : Bool} (h1 : lookR b = (k, c, m, r0, e0)) (h2 : takeI r0 s = (x, r1, e1)) (h3 : takeI r1 true = (fi, r2, e2)) (h4 : diffR 0 fi = (sz, fl, ok)) (h5 : unpackR r2 (m - 2) (wOf c) = (L, r3, e3)) :
    takeDe b s = if e0 ≠ 0 ∨ k ≠ 3 ∨ m < 2 then ([], [], 2) else if e1 ≠ 0 then ([], [], 2) else if e2 ≠ 0 then ([], [], 2) else if ok = false then ([], [], 2) else if 0 < c ∧ e3 ≠ 0 then ([], [], 2)
      else finDe x (if 0 < c then r3 else r2) (stepsDe fl s x (if 0 < c then sz :: L else List.replicate (m - 1).toNat sz)) := by
  unfold takeDe
  simp only [h1, h2, h3, h4, h5]
/-- Numbers, bytes and an error's number are handed back. -/
def DTakeOutI (w : World) (l1 l2 : List Int) (er : Int) (e : Ending) (w' : World) : Prop :=
  ∃ G n c G2 n2 c2, e = .returned (.tuple #[.slice G n c, .slice G2 n2 c2, .int .i64 er]) ∧ Sl w' .i64 G n c l1 ∧ Sl w' .u8 G2 n2 c2 l2 ∧ Below w.heap.size w w'
theorem DTakeOutI.bad {w w' : World} (h : Below w.heap.size w w') : DTakeOutI w [] [] 2 (.returned (.tuple #[.slice none 0 0, .slice none 0 0, .int .i64 2])) w' :=
  ⟨none, 0, 0, none, 0, 0, rfl, Sl.nil _ _, Sl.nil _ _, h⟩
end Go.Proofs.Ytpgkbcgjjmdfiaa

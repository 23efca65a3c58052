/- Plain laws: a head is read as it was laid down. -/
import Derived.Test.YtpngbljfboceeaaHead
import Derived.Test.YtpngbljfboceeaaPlainV
namespace Go.Proofs.Ytpngbljfboceeaa
open Go.RowKit

theorem look_head (c n : Int) (r : List Int) (hc : 0 ≤ c ∧ c ≤ 31) (hn : 1 ≤ n ∧ n ≤ 512) (k : Int) (hk : 0 ≤ k ∧ k ≤ 3) : lookR (headR k c n ++ r) = (k, c, n, r, 0) := by
  unfold headR
  rw [if_pos (by omega)]
  unfold lookR
  rw [if_neg (by simp)]
  simp only [List.cons_append, List.nil_append, List.getD_cons_zero, List.getD_cons_succ, List.drop_succ_cons, List.drop_zero]
  generalize hx : 16384 * k + 512 * c + n - 1 = x
  refine Prod.ext ?_ (Prod.ext ?_ (Prod.ext ?_ rfl)) <;> dsimp only <;> omega
theorem head_u8 (k c n : Int) : U8 (headR k c n) ∧ (headR k c n).length ≤ 2 := by
  unfold headR
  split
  · refine ⟨fun x hx => ?_, by simp⟩
    rcases List.mem_cons.1 hx with rfl | hx
    · omega
    · rw [List.mem_singleton.1 hx]; omega
  · exact ⟨fun x hx => by (cases hx), by simp⟩
end Go.Proofs.Ytpngbljfboceeaa

/- Plain words: a literal slice; what is unpacked. -/
import Derived.Test.YtpngbljfboceeaaUnp
namespace Go.Proofs.Ytpngbljfboceeaa
open Go.RowKit

theorem Calls.turn_ {P : Program} {f : FuncId} {args : Array Value} {w : World} {v : Value} (h : Calls P f args w fun e w' => e = .returned v ∧ w = w') : Calls P f args w fun e w' => e = .returned v ∧ w' = w :=
  h.mono fun _ _ ⟨he, hm⟩ => ⟨he, hm.symm⟩

theorem Ri_lit (w : World) (k : IntKind) (l : List Int) (t : TypeId) (cs : Array Value) (hcs : cs = (l.map (Value.int k)).toArray) (n : Nat) (hn : l.length = n) :
    Ri (w.alloc (.cells cs t)) k (some ⟨w.heap.size, 0, none⟩) n l := by
  subst hcs
  refine ⟨by simpa using hn, fun _ => ⟨w.heap.size, 0, rfl, by simp, fun j u hu => ?_⟩⟩
  rw [(Blk.new w t _).cell]; simpa using hu
theorem unpackR_u64 (l : List Int) (m x : Int) : U64 (unpackR l m x).1 := by
  unfold unpackR
  cases hf : fitsB m x
  · intro y hy; simp at hy
  · rw [if_neg (by simp)]
    have hx := of_decide_eq_true hf
    split
    · intro y hy; cases hy
    · simp only
      split
      · exact bits_u64 _ _ _ _ (by omega)
      · intro y hy; cases hy
theorem unpackR_len (l : List Int) (m x : Int) : (unpackR l m x).1.length ≤ 4096 := by
  unfold unpackR
  cases hf : fitsB m x
  · simp
  · rw [if_neg (by simp)]
    have hx := of_decide_eq_true hf
    split
    · simp
    · simp only
      split
      · simp only [bitsL_len]; omega
      · simp

end Go.Proofs.Ytpngbljfboceeaa

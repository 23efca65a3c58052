/- Words for rows that a call makes anew. -/
import Derived.Test.YtpngbljfboceeaaRefU
namespace Go.Proofs.Ytpngbljfboceeaa
open Go.RowKit

/-- Bytes in a new block are handed back. -/
def BytesFresh (w : World) (l : List Int) (e : Ending) (w' : World) : Prop :=
  ∃ G n c, e = .returned (.slice G n c) ∧ Sl w' .u8 G n c l ∧ Below w.heap.size w w' ∧ ∀ g o, G = some ⟨g, o, none⟩ → w.heap.size ≤ g
theorem own_mono {w : World} {B B' s n : Nat} {e : TypeId} {v : Value} {xs : List Value} (h : w.ownsRow B e s v n xs) (hB : B' ≤ B) : w.ownsRow B' e s v n xs :=
  ⟨h.1, h.2.imp id fun ⟨g, cap, cur, e1, e2, r⟩ => ⟨g, cap, cur, e1, Nat.le_trans hB e2, r⟩⟩
/-- Two rows of the call's own are handed back: numbers, bytes, and the error. -/
def UnpackNew (w : World) (l1 l2 : List Int) (er : Int) (e : Ending) (w' : World) : Prop :=
  ∃ G n c G2 n2 c2, e = .returned (.tuple #[.slice G n c, .slice G2 n2 c2, .int .i64 er]) ∧ Sl w' .u64 G n c l1 ∧ Sl w' .u8 G2 n2 c2 l2 ∧ Below w.heap.size w w' ∧
    w'.ownsRow w.heap.size 50 1 (.slice G n c) n (l1.map (Value.int .u64)) ∧ ∀ g o, G2 = some ⟨g, o, none⟩ → w.heap.size ≤ g
theorem UnpackNew.nil {w w' : World} {er : Int} (h : Below w.heap.size w w') : UnpackNew w [] [] er (.returned (.tuple #[.slice none 0 0, .slice none 0 0, .int .i64 er])) w' :=
  ⟨none, 0, 0, none, 0, 0, rfl, Sl.nil _ _, Sl.nil _ _, h, World.ownsRow_nil _ _ _ _, fun _ _ h => by cases h⟩
end Go.Proofs.Ytpngbljfboceeaa

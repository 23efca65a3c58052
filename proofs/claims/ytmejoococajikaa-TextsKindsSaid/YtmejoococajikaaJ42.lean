/- Joined texts: Str2, TxR, TxS, TxM. Each has its own head line. No condition beyond those that its theorems state. -/
import Derived.Deep.LoopGhost
import Derived.BigQuiet
import Derived.Test.YtmejoococajikaaJ07
import Derived.Test.YtmejoococajikaaJ02
import Derived.Test.YtmejoococajikaaJ39
import Derived.Test.YtmejoococajikaaJ41
set_option linter.unusedVariables false

/- Rows of strings: one string appended. -/
namespace Go.Proofs.Ytmejoococajikaa
open Go.RowKit

theorem info_str : (Try.prog.info? 9).map (fun i => (i.zero, i.size, i.bytes)) = some (some (.string ⟨#[]⟩), 1, 16) := by kernel_rfl
theorem str_one (l : List ByteArray) : ∀ u ∈ l.map Value.string, u.oneCell' = true := fun u h => by
  obtain ⟨s, _, rfl⟩ := List.mem_map.1 h
  rfl
/-- append onto a row of strings of the call's own, whatever is appended. -/
theorem wpList_str (w : World) {ops : Array Oper} {rest : List Oper} {o : Oper} {a : Act} {Q : Exit → Act → World → Prop} (hgd : o.guard = none) (s x : Operand)
    (ho : o.op = .call { callee := .builtin .append, args := #[s, x], argTypes := #[22, 22] })
    (base : Nat) (v : Value) (n : Nat) (l : List ByteArray) (hs : a.eval s = v) (hown : w.ownsRow base 9 1 v n (l.map Value.string))
    (A : Option Addr) (m c : Nat) (l2 : List ByteArray) (hx : a.eval x = .slice A m c) (hr : Rs w A m l2) (hb : n + m ≤ 2000000000) (hbase : base ≤ w.heap.size)
    (h : ∀ G cap w', w'.ownsRow base 9 1 (.slice G (n + m) cap) (n + m) ((l ++ l2).map Value.string) → w.grownBy w' v.ownBlock → n + m ≤ cap → wpList Try.prog ops Q rest (a.put o.dst (.slice G (n + m) cap)) w') : wpList Try.prog ops Q (o :: rest) a w := by
  obtain ⟨i0, hi, hz0, hz1, hz2⟩ := info_parts info_str
  refine wpList_append_any w hgd s x 22 ho base 9 i0 (.string ⟨#[]⟩) 1 16 Try.underlying22 hi hz0 hz1 hz2 rfl (by decide) v n _ hs hown A m c _ hx hr (str_one _) (by unfold maxLen; omega) (by omega) hbase ?_
  intro G cap w' h1 h2 _ h4
  rw [← List.map_append] at h1
  exact h G cap w' h1 h2 h4
theorem Rs.one (w : World) (s : ByteArray) (t : TypeId) : Rs (w.alloc (.cells #[.string s] t)) (some ⟨w.heap.size, 0, none⟩) 1 [s] := Rd.one w (.string s) t
end Go.Proofs.Ytmejoococajikaa

/- The reference of texts: place, Words. -/
namespace Go.Proofs.Ytmejoococajikaa
open Go.RowKit

theorem bdN {B : Nat} {a w : World} (h : Below B a w) (q : Nat) : Below B a (w.drewN q) := ⟨h.os, h.tape, h.output, h.size, h.block⟩
theorem str_beqT (a b : ByteArray) : (a.toList == b.toList) = decide (a = b) := by
  rw [Bool.eq_iff_iff]
  simp only [beq_iff_eq, decide_eq_true_eq, ByteArray.toList_eq]
  exact ⟨fun h => key_inj h, fun h => by rw [h]⟩
theorem less_beforeT : ∀ (a b : List UInt8), Op.bytesLess a b = bytesBefore a b
  | [], [] => rfl
  | [], _ :: _ => rfl
  | _ :: _, [] => rfl
  | x :: r, y :: s => by
    have ih := less_beforeT r s
    unfold Op.bytesLess bytesBefore
    rw [ih]
theorem less_ltT (a b : ByteArray) : Op.bytesLess a.toList b.toList = decide (a.data.toList < b.data.toList) := by
  rw [less_beforeT, ByteArray.toList_eq, ByteArray.toList_eq, Bool.eq_iff_iff, before_lt, decide_eq_true_eq]
end Go.Proofs.Ytmejoococajikaa

/- Texts: Same, SameColumn. -/
namespace Go.Proofs.Ytmejoococajikaa
open Go.RowKit

/-- A row of n streams that reads as S: their kinds, their bytes. -/
def StAt (w : World) (A : Option Addr) (n : Nat) (S : List (Int × List Int)) : Prop :=
  S.length = n ∧ (0 < n → ∃ b o, A = some ⟨b, o, none⟩ ∧ b < w.heap.size ∧ ∀ j (hj : j < S.length), w.cell? ⟨b, o + j * 2, none⟩ = some (.int .i64 S[j].1) ∧ ∃ G m c, w.cell? ⟨b, o + j * 2 + 1, none⟩ = some (.slice G m c) ∧ Sl w .u8 G m c S[j].2)
theorem StAt.below {w w' : World} {A : Option Addr} {n : Nat} {S : List (Int × List Int)} (h : StAt w A n S) (hb : Below w.heap.size w w') : StAt w' A n S :=
  ⟨h.1, fun h0 => by
    obtain ⟨b, o, e, hlt, hc⟩ := h.2 h0
    refine ⟨b, o, e, Nat.lt_of_lt_of_le hlt hb.size, fun j hj => ?_⟩
    obtain ⟨k1, G, m, c, k2, k3⟩ := hc j hj
    exact ⟨(hb.cell (p := ⟨b, _, none⟩) hlt).trans k1, G, m, c, (hb.cell (p := ⟨b, _, none⟩) hlt).trans k2, k3.below hb⟩⟩
theorem newBlkT (w : World) (o : Obj) : (w.alloc o).heap[w.heap.size]? = some o := by
  show (w.heap.push o)[w.heap.size]? = some o
  exact Array.getElem?_push_size
theorem cell_blkT {w : World} {b : Nat} {cs : Array Value} {t : TypeId} {z : Nat × Nat} (h : w.heap[b]? = some (.cells cs t z)) (j : Nat) : w.cell? ⟨b, j, none⟩ = cs[j]? := by
  simp [World.cell?, h]
theorem StAt.nil (w : World) (A : Option Addr) : StAt w A 0 [] := ⟨rfl, fun h => absurd h (by omega)⟩
end Go.Proofs.Ytmejoococajikaa

/- Texts: the map from words to their places. -/
namespace Go.Proofs.Ytmejoococajikaa
open Go.RowKit

def entW (p : ByteArray × Nat) : Lit × DataW Value := (keyL p.1, .lit (.int .i64 (p.2 : Int)))
def datW (L : List (ByteArray × Nat)) : DataW Value := .map (L.map entW)
theorem datW_size (L : List (ByteArray × Nat)) : Maps.size (datW L) = L.length := by
  unfold datW; rw [Maps.size_eq, List.length_map]
theorem datW_at (L : List (ByteArray × Nat)) (s : ByteArray) (z : DataW Value) : (datW L).atKey (keyL s) z = match L.find? (fun p => decide (p.1 = s)) with | some p => .lit (.int .i64 (p.2 : Int)) | none => z := by
  unfold datW DataW.atKey
  dsimp only
  rw [List.find?_map]
  have e : ((fun p : Lit × DataW Value => p.1.sameKey (keyL s)) ∘ entW) = fun p => decide (p.1 = s) := by
    funext p; exact same_keyL _ _
  rw [e]
  cases L.find? (fun p => decide (p.1 = s)) <;> rfl
theorem insert_last (s : ByteArray) (i : Nat) (L : List (ByteArray × Nat)) (h : ∀ p ∈ L, p.1.data.toList < s.data.toList) : DataW.insert (entW (s, i)) (L.map entW) = (L ++ [(s, i)]).map entW := by
  induction L with
  | nil => rfl
  | cons g r ih =>
    rw [List.map_cons, DataW.insert]
    have hg := h g List.mem_cons_self
    have e : (entW (s, i)).1.before (entW g).1 = bytesBefore s.data.toList g.1.data.toList := rfl
    have e2 : bytesBefore s.data.toList g.1.data.toList = false := by
      cases hb : bytesBefore s.data.toList g.1.data.toList with
      | false => rfl
      | true => exact absurd (List.lt_trans ((before_lt _ _).1 hb) hg) (List.lt_irrefl _)
    rw [e, e2, ih fun p hp => h p (List.mem_cons_of_mem _ hp)]
    rfl
theorem datW_put (L : List (ByteArray × Nat)) (s : ByteArray) (i : Nat) (h : ∀ p ∈ L, p.1.data.toList < s.data.toList) : (datW L).put (keyL s) (.lit (.int .i64 (i : Int))) = datW (L ++ [(s, i)]) := by
  unfold datW DataW.put
  dsimp only
  have e : (L.map entW).filter (fun p => !p.1.sameKey (keyL s)) = L.map entW := by
    rw [List.filter_eq_self]
    intro p hp
    obtain ⟨g, hg, rfl⟩ := List.mem_map.1 hp
    show (!(keyL g.1).sameKey (keyL s)) = true
    rw [same_keyL, decide_eq_false]
    · rfl
    · rintro rfl
      exact List.lt_irrefl _ (h g hg)
  rw [e]
  exact congrArg DataW.map (insert_last s i L h)
/-- The words, each with its place. -/
def zipW (W : List ByteArray) (j : Nat) : List (ByteArray × Nat) := (W.take j).zipIdx
theorem zipW_len (W : List ByteArray) (j : Nat) (h : j ≤ W.length) : (zipW W j).length = j := by unfold zipW; rw [List.length_zipIdx, List.length_take]; omega
theorem zipW_step {W : List ByteArray} {j : Nat} (h : j < W.length) : zipW W (j + 1) = zipW W j ++ [(W[j], j)] := by
  unfold zipW
  rw [List.take_succ_eq_append_getElem h, List.zipIdx_append, List.length_take]
  simp [Nat.min_eq_left (Nat.le_of_lt h)]
theorem zipW_low {W : List ByteArray} (hW : Rising W) {j : Nat} (h : j < W.length) : ∀ p ∈ zipW W j, p.1.data.toList < W[j].data.toList := fun p hp => by
  have h1 : p.1 ∈ W.take j := List.fst_mem_of_mem_zipIdx hp
  obtain ⟨i, hi, e⟩ := List.mem_iff_getElem.1 h1
  rw [List.length_take] at hi
  rw [List.getElem_take] at e
  rw [← e]
  exact List.pairwise_iff_getElem.1 hW i j (by omega) h (by omega)
theorem zipW_find {W : List ByteArray} (hW : Rising W) {s : ByteArray} (hs : s ∈ W) : (zipW W W.length).find? (fun p => decide (p.1 = s)) = some (s, idxT W s) := by
  have hg := idxT_get hs
  have hm : (s, idxT W s) ∈ zipW W W.length := by
    unfold zipW
    rw [List.take_length]
    exact List.mem_zipIdx_iff_getElem?.2 hg
  cases hf : (zipW W W.length).find? (fun p => decide (p.1 = s)) with
  | none => exact absurd (List.find?_eq_none.1 hf _ hm) (by simp)
  | some q =>
    have h1 := List.find?_some hf
    have h2 := List.mem_of_find?_eq_some hf
    have h1 : q.1 = s := of_decide_eq_true h1
    unfold zipW at h2
    rw [List.take_length] at h2
    have h3 := List.mem_zipIdx_iff_getElem?.1 h2
    rw [h1] at h3
    have := nodup_get hW.nodup h3 hg
    exact congrArg some (Prod.ext h1 this)
theorem keyed_t : Maps.Keyed Try.prog 9 := Maps.string_keyed Try.underlying9
theorem key_ofT {s : ByteArray} (h : s.size ≤ maxLen) : keyOf Try.prog 9 (.string s) = some (keyL s) := WideMaps.keyOf_string_mk Try.underlying9 h
end Go.Proofs.Ytmejoococajikaa

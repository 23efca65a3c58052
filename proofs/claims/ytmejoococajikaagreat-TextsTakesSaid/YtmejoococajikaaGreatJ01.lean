/- Joined texts: Mem. Each has its own head line. No condition beyond those that its theorems state. -/
import Derived.WalkKit
import Derived.WalkSpells
import Derived.WalkLawsBesides
import Derived.Handy
import Derived.Laws.OwnMore
import Derived.Laws.BytesArg
import Derived.Deep.AppendLies
import Derived.Deep.Draws
import Derived.Maps.AppendAt
import Derived.Lib.Hide
set_option linter.unusedVariables false

/- Words for memory: a slice that reads as a list of cells; its conversion to a string; what is appended. -/
namespace Go.Proofs.YtmejoococajikaaGreat
open Go.RowKit

theorem block_of_add (a : Addr) (n : Nat) : (a.add n).block = a.block := by unfold Addr.add; split <;> rfl
theorem add_none (b o i : Nat) : (⟨b, o, none⟩ : Addr).add i = ⟨b, o + i, none⟩ := by unfold Addr.add; split <;> simp_all

/-- The slice value '.slice A n c' of elements of 'size' cells reads as the cells xs: it has no element; or it begins at a place in a block that is there, and the cells from there on are xs. -/
def Rd (w : World) (size : Nat) (A : Option Addr) (n : Nat) (xs : List Value) : Prop :=
  xs.length = n * size ∧ (0 < n → ∃ b o, A = some ⟨b, o, none⟩ ∧ b < w.heap.size ∧ ∀ j u, xs[j]? = some u → w.cell? ⟨b, o + j, none⟩ = some u)

section
variable {w w' : World} {size n : Nat} {A : Option Addr} {xs : List Value}
theorem Rd.nil (w : World) (size : Nat) (A : Option Addr) : Rd w size A 0 [] := ⟨by simp, fun h => absurd h (by omega)⟩
theorem Rd.keep (h : Rd w size A n xs) (hs : w.heap.size ≤ w'.heap.size) (hk : ∀ p : Addr, p.block < w.heap.size → w'.cell? p = w.cell? p) : Rd w' size A n xs := ⟨h.1, fun hl => by
  obtain ⟨b, o, e, hb, hc⟩ := h.2 hl
  exact ⟨b, o, e, by omega, fun j u hj => (hk _ hb).trans (hc j u hj)⟩⟩
theorem Rd.below (h : Rd w size A n xs) (hb : Below w.heap.size w w') : Rd w' size A n xs := h.keep hb.size fun _ hp => hb.cell hp
theorem Rd.drew (h : Rd w size A n xs) : Rd w.drew size A n xs := h
theorem Rd.drewN (h : Rd w size A n xs) (m : Nat) : Rd (w.drewN m) size A n xs := h
theorem Rd.alloc (h : Rd w size A n xs) (o : Obj) : Rd (w.alloc o) size A n xs := h.keep (by simp) fun p hp => World.cell?_alloc_lt w o p hp
theorem Rd.setCell (h : Rd w size A n xs) {p : Addr} (hp : ∀ b o, A = some ⟨b, o, none⟩ → p.block ≠ b) (u : Value) : Rd (w.setCell p u) size A n xs := ⟨h.1, fun hl => by
  obtain ⟨b, o, e, hb, hc⟩ := h.2 hl
  exact ⟨b, o, e, by simpa [World.setCell] using hb, fun j v hj => (World.cell?_setCell_other w p _ u (fun q => hp b o e (by rw [q]))).trans (hc j v hj)⟩⟩
theorem Rd.grown (h : Rd w size A n xs) {row : Option Nat} (hg : w.grownBy w' row) (hr : ∀ g b o, row = some g → A = some ⟨b, o, none⟩ → g ≠ b) : Rd w' size A n xs := ⟨h.1, fun hl => by
  obtain ⟨b, o, e, hb, hc⟩ := h.2 hl
  refine ⟨b, o, e, by have := hg.size; omega, fun j u hj => ?_⟩
  rw [← hc j u hj]
  exact World.cell?_of_block (hg.block b hb (fun e2 => hr _ b o e2.symm e rfl))⟩
theorem Rd.of_own {base : Nat} {e : TypeId} {c : Nat} (h : w.ownsRow base e size (.slice A n c) n xs) : Rd w size A n xs := by
  refine ⟨h.1, fun hn => ?_⟩
  obtain ⟨g, cap, hv, _, hlt⟩ := h.form hn
  have hA : A = some ⟨g, 0, none⟩ := by injection hv
  subst hA
  exact ⟨g, 0, rfl, hlt, fun j u hu => by rw [← add_none]; exact h.cells (g := g) rfl j u hu⟩
/-- A cut 's[k:m]' (the address as the model writes it). -/
theorem Rd.cut (h : Rd w size A n xs) {k m : Nat} (hk : k ≤ m) (hm : m ≤ n) (cap : Nat) (hc : n ≤ cap) :
    Rd w size (if cap = k then A else A.map (·.add (k * size))) (m - k) ((xs.drop (k * size)).take ((m - k) * size)) := by
  have h1 := h.1
  have hle : m * size ≤ n * size := Nat.mul_le_mul_right _ hm
  have hkm : (m - k) * size = m * size - k * size := Nat.sub_mul _ _ _
  have hkl : k * size ≤ m * size := Nat.mul_le_mul_right _ hk
  refine ⟨by rw [List.length_take, List.length_drop, h1, hkm]; omega, fun hn => ?_⟩
  obtain ⟨b, o, rfl, hb, hcell⟩ := h.2 (by omega)
  rw [if_neg (by omega)]
  refine ⟨b, o + k * size, by simp [add_none], hb, fun j u hu => ?_⟩
  have hj : j < (m - k) * size := by
    rcases Nat.lt_or_ge j ((m - k) * size) with hlt | hge
    · exact hlt
    · rw [List.getElem?_eq_none (by rw [List.length_take]; omega)] at hu; cases hu
  rw [List.getElem?_take_of_lt hj, List.getElem?_drop] at hu
  rw [Nat.add_assoc]
  exact hcell _ u hu
end

/-- A slice of n one-cell numbers of kind k that reads as l. -/
def Ri (w : World) (k : IntKind) (A : Option Addr) (n : Nat) (l : List Int) : Prop := Rd w 1 A n (l.map (Value.int k))

section
variable {w w' : World} {k : IntKind} {A : Option Addr} {n : Nat} {l : List Int}
theorem Ri.len (h : Ri w k A n l) : l.length = n := by have := h.1; simpa using this
theorem Ri.nil (w : World) (k : IntKind) (A : Option Addr) : Ri w k A 0 [] := Rd.nil w 1 A
theorem Ri.below (h : Ri w k A n l) (hb : Below w.heap.size w w') : Ri w' k A n l := Rd.below h hb
theorem Ri.drew (h : Ri w k A n l) : Ri w.drew k A n l := h
theorem Ri.drewN (h : Ri w k A n l) (m : Nat) : Ri (w.drewN m) k A n l := h
theorem Ri.alloc (h : Ri w k A n l) (o : Obj) : Ri (w.alloc o) k A n l := Rd.alloc h o
theorem Ri.setCell (h : Ri w k A n l) {p : Addr} (hp : ∀ b o, A = some ⟨b, o, none⟩ → p.block ≠ b) (u : Value) : Ri (w.setCell p u) k A n l := Rd.setCell h hp u
theorem Ri.grown (h : Ri w k A n l) {row : Option Nat} (hg : w.grownBy w' row) (hr : ∀ g b o, row = some g → A = some ⟨b, o, none⟩ → g ≠ b) : Ri w' k A n l := Rd.grown h hg hr
theorem Ri.of_own {base : Nat} {e : TypeId} {c : Nat} (h : w.ownsRow base e 1 (.slice A n c) n (l.map (Value.int k))) : Ri w k A n l := Rd.of_own h
theorem Ri.cut (h : Ri w k A n l) {i m : Nat} (hk : i ≤ m) (hm : m ≤ n) (cap : Nat) (hc : n ≤ cap) :
    Ri w k (if cap = i then A else A.map (·.add i)) (m - i) ((l.drop i).take (m - i)) := by
  have := Rd.cut h hk hm cap hc
  unfold Ri
  rw [List.map_take, List.map_drop]
  simpa using this
/-- The j-th element's cell, for a round. -/
theorem Ri.at_ (h : Ri w k A n l) {j : Nat} (hj : j < n) : ∃ b o, A = some ⟨b, o, none⟩ ∧ b < w.heap.size ∧ w.cell? ⟨b, o + j, none⟩ = some (.int k (l.getD j 0)) := by
  obtain ⟨b, o, e, hb, hc⟩ := h.2 (by omega)
  have hj' : j < l.length := by rw [h.len]; exact hj
  exact ⟨b, o, e, hb, hc j _ (by simp [List.getElem?_map, List.getElem?_eq_getElem hj'])⟩
theorem Ri.all (h : Ri w k A n l) (hl : 0 < n) : ∃ b o, A = some ⟨b, o, none⟩ ∧ b < w.heap.size ∧ ∀ j, j < n → w.cell? ⟨b, o + j, none⟩ = some (.int k (l.getD j 0)) := by
  obtain ⟨b, o, e, hb, hc⟩ := h.2 hl
  exact ⟨b, o, e, hb, fun j hj => hc j _ (by simp [List.getElem?_map, List.getElem?_eq_getElem (show j < l.length by rw [h.len]; exact hj)])⟩
theorem Ri.mk_ {b o : Nat} (hl : l.length = n) (hb : b < w.heap.size) (hc : ∀ j, j < n → w.cell? ⟨b, o + j, none⟩ = some (.int k (l.getD j 0))) : Ri w k (some ⟨b, o, none⟩) n l :=
  ⟨by simpa using hl, fun _ => ⟨b, o, rfl, hb, fun j u hu => by
    have hj : j < l.length := by
      rcases Nat.lt_or_ge j l.length with hlt | hge
      · exact hlt
      · rw [List.getElem?_eq_none (by simpa using hge)] at hu; cases hu
    rw [hc j (by omega)]
    simp [List.getElem?_eq_getElem hj] at hu
    rw [← hu]; simp [List.getElem?_eq_getElem hj]⟩⟩
/-- A cut 's[:m]' of a slice that is longer. -/
theorem Ri.first (h : Ri w k A n l) {m : Nat} (hm : m ≤ n) : Ri w k A m (l.take m) :=
  ⟨by have := h.len; simp; omega, fun h0 => by
    obtain ⟨b, o, e, hb, hc⟩ := h.2 (by omega)
    refine ⟨b, o, e, hb, fun j u hu => hc j u ?_⟩
    rw [List.map_take] at hu
    have hj : j < m := by
      rcases Nat.lt_or_ge j m with hlt | hge
      · exact hlt
      · rw [List.getElem?_eq_none (by rw [List.length_take]; omega)] at hu; cases hu
    rwa [List.getElem?_take_of_lt hj] at hu⟩
/-- A cut 's[i:]', the address given as it stands behind the cut. -/
theorem Ri.rest (h : Ri w k A n l) {i : Nat} (hi : i ≤ n) {b o : Nat} (hA : 0 < n → A = some ⟨b, o, none⟩) : Ri w k (some ⟨b, o + i, none⟩) (n - i) (l.drop i) :=
  ⟨by have := h.len; simp; omega, fun h0 => by
    obtain ⟨b', o', e, hb, hc⟩ := h.2 (by omega)
    have e2 := hA (by omega)
    rw [e] at e2
    injection e2 with e2
    injection e2 with e3 e4
    subst e3 e4
    refine ⟨_, _, rfl, hb, fun j u hu => ?_⟩
    rw [List.map_drop, List.getElem?_drop] at hu
    rw [Nat.add_assoc]
    exact hc _ u hu⟩
end

theorem Ri.zero {w : World} {k : IntKind} {A : Option Addr} {n : Nat} {l : List Int} (h : Ri w k A n l) (hn : n = 0) (A' : Option Addr) : Ri w k A' n l := ⟨h.1, fun h0 => absurd h0 (by omega)⟩
theorem own_empty (w : World) (e : TypeId) (size : Nat) : (w.alloc (.cells #[] e)).ownsRow w.heap.size e size (.slice (some ⟨w.heap.size, 0, none⟩) 0 0) 0 [] :=
  World.ownsRow_lit w #[] 0 (Nat.le_refl _) (Nat.zero_le _) (by simp)

/-- What the numbers of a list are, by their kind. -/
def U8 (l : List Int) : Prop := ∀ x ∈ l, 0 ≤ x ∧ x < 256
def U64 (l : List Int) : Prop := ∀ x ∈ l, 0 ≤ x ∧ x < 18446744073709551616
def I64 (l : List Int) : Prop := ∀ x ∈ l, -9223372036854775808 ≤ x ∧ x < 9223372036854775808

/-- The string that bytes make. -/
def strOf (l : List Int) : ByteArray := strOfNums l
theorem strOf_eq (a b : List Int) (ha : U8 a) (hb : U8 b) : (strOf a).toList = (strOf b).toList ↔ a = b := by
  constructor
  · intro h
    rw [ByteArray.toList_eq, ByteArray.toList_eq] at h
    change (strOfNums a).data.toList = (strOfNums b).data.toList at h
    rw [strOfNums_data, strOfNums_data] at h
    induction a generalizing b with
    | nil => cases b with
      | nil => rfl
      | cons y b => simp at h
    | cons x a ih => cases b with
      | nil => simp at h
      | cons y b =>
        simp only [List.map_cons, List.cons.injEq] at h
        obtain ⟨h1, h2⟩ := h
        have e := ih b (fun z hz => ha z (List.mem_cons_of_mem _ hz)) (fun z hz => hb z (List.mem_cons_of_mem _ hz)) h2
        have a1 := ha x List.mem_cons_self
        have b1 := hb y List.mem_cons_self
        have h3 := congrArg UInt8.toNat h1
        rw [UInt8.toNat_ofNat', UInt8.toNat_ofNat'] at h3
        rw [e, show x = y from by omega]
  · rintro rfl; rfl
theorem strOf_same (a : List Int) : ((strOf a).toList == (strOf a).toList) = true := by simp
theorem strOf_beq (a b : List Int) (ha : U8 a) (hb : U8 b) : ((strOf a).toList == (strOf b).toList) = decide (a = b) := by
  rw [Bool.eq_iff_iff]; simp [strOf_eq a b ha hb]

/-- The conversion of bytes to a string, as an equation for the walk. -/
theorem run_conv {P : Program} {w : World} (src e dst : TypeId) (hs : P.underlying src = some (.slice e)) (he : P.underlying e = some (.int .u8)) (hd : P.underlying dst = some .string)
    (A : Option Addr) (n c : Nat) (l : List Int) (h : Ri w .u8 A n l) : (convert src dst (.slice A n c)).run P w = .ok (.string (strOf l)) w := by
  rcases Nat.eq_zero_or_pos n with h0 | h0
  · have : l = [] := List.eq_nil_of_length_eq_zero (by rw [h.len]; exact h0)
    subst this
    subst h0
    cases A with
    | none => exact run_convert_bytes_nil w src e hs he _ c dst hd
    | some a =>
      rw [run_convert_bytes_string w src dst e _ _ c hs he hd]
      exact run_bytesToString w a 0 c [] (by simp [loadCells, loadCellsFrom])
  · obtain ⟨b, o, rfl, hb, hc⟩ := h.all h0
    exact run_convert_bytes_arg w src e hs he b o _ c l h.len hc dst hd

/-- What the call owns stays so behind a call that leaves what is there. -/
theorem own_below {w w' : World} {base : Nat} {e : TypeId} {size n : Nat} {v : Value} {xs : List Value} (h : w.ownsRow base e size v n xs) (hb : Below w.heap.size w w') : w'.ownsRow base e size v n xs :=
  h.kept (row := none) ⟨hb.os, hb.tape, hb.output, hb.size, fun k hk _ => hb.block k hk⟩ (by
    rcases h.2 with ⟨rfl, _⟩ | ⟨g, cap, cur, rfl, _⟩
    · exact .inl rfl
    · right; simp [Value.ownBlock])

/-- Two calls, one behind the other. -/
theorem on {w0 w w1 : World} (h : Below w0.heap.size w0 w) (k : Below w.heap.size w w1) : Below w0.heap.size w0 w1 := h.trans (k.mono h.size)
theorem below_of_grown {w0 w w' : World} {row : Option Nat} {B : Nat} (h : Below B w0 w) (hg : w.grownBy w' row) (hB : B ≤ w.heap.size) (hr : ∀ k, row = some k → B ≤ k) : Below B w0 w' := h.grown hg hB hr

section
variable {P : Program} (w : World)

theorem run_append_of_nil (base : Nat) (t ty e : TypeId) (i : TypeInfo) (size : Nat) (ht : P.underlying t = some (.slice e)) (hi : P.info? e = some i)
    (v : Value) (n : Nat) (xs : List Value) (hown : w.ownsRow base e size v n xs) (c : Nat) : (Builtin.append_ #[t, t] ty #[v, .slice none 0 c]).run P w = .ok v w := by
  rcases hown.2 with ⟨rfl, rfl⟩ | ⟨g, cap, cur, rfl, _, _, hnc, _⟩
  · simp [Builtin.append_, run_underlying ht, sizeOf, typeInfo, hi, Builtin.lenOf, Builtin.firstCells]
  · simp [Builtin.append_, run_underlying ht, sizeOf, typeInfo, hi, Builtin.lenOf, Builtin.firstCells, hnc, storeCells]

/-- append of whatever reads as a list, onto a row of the call's own: the new value is written out. -/
theorem run_append_any (base : Nat) (t ty e : TypeId) (i : TypeInfo) (z : Value) (size bytes : Nat) (ht : P.underlying t = some (.slice e)) (hi : P.info? e = some i) (hz : i.zero = some z)
    (hsize : i.size = size) (hby : i.bytes = bytes) (hzs : z.cells.size = size) (hsz : 0 < size)
    (v : Value) (n : Nat) (xs : List Value) (hown : w.ownsRow base e size v n xs)
    (A : Option Addr) (m c : Nat) (news : List Value) (hr : Rd w size A m news) (h1 : ∀ u ∈ news, u.oneCell' = true)
    (h63 : n + m ≤ maxLen) (hbytes : (n + m) * bytes ≤ 140737488355328) (hbase : base ≤ w.heap.size) :
    ∃ G cap w', (Builtin.append_ #[t, t] ty #[v, .slice A m c]).run P w = .ok (.slice G (n + m) cap) w' ∧ w'.ownsRow base e size (.slice G (n + m) cap) (n + m) (xs ++ news) ∧ w.grownBy w' v.ownBlock ∧
      ((Value.slice G (n + m) cap).ownBlock = v.ownBlock ∨ (Value.slice G (n + m) cap).ownBlock = some w.heap.size) ∧ n + m ≤ cap := by
  have shape : ∃ G cap, v = .slice G n cap ∧ n ≤ cap := by
    rcases hown.2 with ⟨rfl, rfl⟩ | ⟨g, cap, cur, rfl, _, _, hn, _⟩
    · exact ⟨none, 0, rfl, Nat.le_refl _⟩
    · exact ⟨_, _, rfl, hn⟩
  rcases A with _ | ad
  · have hm : m = 0 := by
      rcases Nat.eq_zero_or_pos m with h0 | h0
      · exact h0
      · obtain ⟨b, o, h, _⟩ := hr.2 h0
        cases h
    subst hm
    have hn : news = [] := List.eq_nil_of_length_eq_zero (by simpa using hr.1)
    subst hn
    obtain ⟨G, cap, rfl, hle⟩ := shape
    exact ⟨G, cap, w, run_append_of_nil w base t ty e i size ht hi _ n xs hown c, by simpa using hown, World.grownBy.refl w _, .inl rfl, hle⟩
  · have hcells : ∀ j u, news[j]? = some u → w.cell? (ad.add j) = some u := by
      intro j u hu
      rcases Nat.eq_zero_or_pos m with h0 | h0
      · subst h0
        have hn : news = [] := List.eq_nil_of_length_eq_zero (by simpa using hr.1)
        subst hn
        simp at hu
      · obtain ⟨b, o, h, _, hc⟩ := hr.2 h0
        injection h with h
        subst h
        rw [add_none]
        exact hc j u hu
    obtain ⟨v', w', hrun, h2, h3, _, h5⟩ := run_append_own_at (P := P) w base t ty e i z size bytes ht hi hz hsize hby hzs hsz v n xs hown ad m c news hr.1 hcells h1 h63 hbytes hbase
    have shape' : ∃ G cap, v' = .slice G (n + m) cap ∧ n + m ≤ cap := by
      rcases h2.2 with ⟨rfl, h0⟩ | ⟨g, cap, cur, rfl, _, _, hn, _⟩
      · exact ⟨none, 0, by rw [h0], by omega⟩
      · exact ⟨_, _, rfl, hn⟩
    obtain ⟨G, cap, rfl, hle⟩ := shape'
    exact ⟨G, cap, w', hrun, h2, h3, h5, hle⟩

theorem wp_append_any {o : Oper} {a : Act} {K : Act → World → Prop} {Q : Exit → Act → World → Prop} (s x : Operand) (t : TypeId)
    (ho : o.op = .call { callee := .builtin .append, args := #[s, x], argTypes := #[t, t] })
    (base : Nat) (e : TypeId) (i : TypeInfo) (z : Value) (size bytes : Nat) (ht : P.underlying t = some (.slice e)) (hi : P.info? e = some i) (hz : i.zero = some z)
    (hsize : i.size = size) (hby : i.bytes = bytes) (hzs : z.cells.size = size) (hsz : 0 < size)
    (v : Value) (n : Nat) (xs : List Value) (hs : a.eval s = v) (hown : w.ownsRow base e size v n xs)
    (A : Option Addr) (m c : Nat) (news : List Value) (hx : a.eval x = .slice A m c) (hr : Rd w size A m news) (h1 : ∀ u ∈ news, u.oneCell' = true)
    (h63 : n + m ≤ maxLen) (hbytes : (n + m) * bytes ≤ 140737488355328) (hbase : base ≤ w.heap.size)
    (h : ∀ G cap w', w'.ownsRow base e size (.slice G (n + m) cap) (n + m) (xs ++ news) → w.grownBy w' v.ownBlock → ((Value.slice G (n + m) cap).ownBlock = v.ownBlock ∨ (Value.slice G (n + m) cap).ownBlock = some w.heap.size) → n + m ≤ cap → K (a.put o.dst (.slice G (n + m) cap)) w') : o.wp P a w K Q := by
  obtain ⟨G, cap, w', hrun, h2, h3, h4, h5⟩ := run_append_any (P := P) w base t o.type e i z size bytes ht hi hz hsize hby hzs hsz v n xs hown A m c news hr h1 h63 hbytes hbase
  unfold Oper.wp execOp
  simp only [ho, resolve, invoke, builtin, Sem.run_bind, Sem.run_pure, Result.andThen_ok, List.map_toArray, List.map_cons, List.map_nil, hs, hx, hrun]
  exact h G cap w' h2 h3 h4 h5

theorem wpList_append_any {ops : Array Oper} {rest : List Oper} {o : Oper} {a : Act} {Q : Exit → Act → World → Prop} (hgd : o.guard = none) (s x : Operand) (t : TypeId)
    (ho : o.op = .call { callee := .builtin .append, args := #[s, x], argTypes := #[t, t] })
    (base : Nat) (e : TypeId) (i : TypeInfo) (z : Value) (size bytes : Nat) (ht : P.underlying t = some (.slice e)) (hi : P.info? e = some i) (hz : i.zero = some z)
    (hsize : i.size = size) (hby : i.bytes = bytes) (hzs : z.cells.size = size) (hsz : 0 < size)
    (v : Value) (n : Nat) (xs : List Value) (hs : a.eval s = v) (hown : w.ownsRow base e size v n xs)
    (A : Option Addr) (m c : Nat) (news : List Value) (hx : a.eval x = .slice A m c) (hr : Rd w size A m news) (h1 : ∀ u ∈ news, u.oneCell' = true)
    (h63 : n + m ≤ maxLen) (hbytes : (n + m) * bytes ≤ 140737488355328) (hbase : base ≤ w.heap.size)
    (h : ∀ G cap w', w'.ownsRow base e size (.slice G (n + m) cap) (n + m) (xs ++ news) → w.grownBy w' v.ownBlock → ((Value.slice G (n + m) cap).ownBlock = v.ownBlock ∨ (Value.slice G (n + m) cap).ownBlock = some w.heap.size) → n + m ≤ cap → wpList P ops Q rest (a.put o.dst (.slice G (n + m) cap)) w') : wpList P ops Q (o :: rest) a w :=
  wpList_plain hgd fun _ hK => wp_append_any w s x t ho base e i z size bytes ht hi hz hsize hby hzs hsz v n xs hs hown A m c news hx hr h1 h63 hbytes hbase fun G cap w' h2 h3 h4 h5 => hK _ _ (h G cap w' h2 h3 h4 h5)
end

theorem Rd.one (w : World) (x : Value) (t : TypeId) : Rd (w.alloc (.cells #[x] t)) 1 (some ⟨w.heap.size, 0, none⟩) 1 [x] :=
  ⟨rfl, fun _ => ⟨_, _, rfl, by simp, fun j u hu => by
    have hj : j = 0 := by
      rcases Nat.eq_zero_or_pos j with h | h
      · exact h
      · rw [List.getElem?_eq_none (by simp; omega)] at hu; cases hu
    subst hj
    simp at hu
    subst hu
    simp [go_sem]⟩⟩

theorem own_form {w : World} {B : Nat} {e : TypeId} {size n : Nat} {v : Value} {xs : List Value} (h : w.ownsRow B e size v n xs) : ∃ G c, v = .slice G n c := by
  rcases h.2 with ⟨rfl, rfl⟩ | ⟨g, cap, cur, rfl, _⟩
  · exact ⟨none, 0, rfl⟩
  · exact ⟨_, _, rfl⟩

/-- One element is laid behind a row of the call's own. -/
theorem push_ {B : Nat} {w0 wr w1 : World} {e : TypeId} {size n : Nat} {v : Value} {xs : List Value} (h : Below B w0 wr) (hB : B ≤ w0.heap.size) (ho : wr.ownsRow B e size v n xs) {o : Obj} (hg : (wr.alloc o).grownBy w1 v.ownBlock) : Below B w0 w1 := by
  have hz := h.size
  exact (h.alloc (by omega) o).grown hg (by simp; omega) (fun g hg => (ho.lt g hg).1)
theorem push0 {B : Nat} {w0 wr w1 : World} {e : TypeId} {size n : Nat} {v : Value} {xs : List Value} (h : Below B w0 wr) (hB : B ≤ w0.heap.size) (ho : wr.ownsRow B e size v n xs) (hg : wr.grownBy w1 v.ownBlock) : Below B w0 w1 := by
  have hz := h.size
  exact h.grown hg (by omega) (fun g hg => (ho.lt g hg).1)

/-- A slice of numbers that reads as l; its length is within its capacity. -/
def Sl (w : World) (k : IntKind) (A : Option Addr) (n c : Nat) (l : List Int) : Prop := Ri w k A n l ∧ n ≤ c ∧ c ≤ 9223372036854775807
theorem Sl.nil (w : World) (k : IntKind) : Sl w k none 0 0 [] := ⟨Ri.nil _ _ _, Nat.le_refl _, by omega⟩
theorem Sl.below {w w' : World} {k : IntKind} {A : Option Addr} {n c : Nat} {l : List Int} (h : Sl w k A n c l) (hb : Below w.heap.size w w') : Sl w' k A n c l := ⟨h.1.below hb, h.2⟩
theorem Sl.drewN {w : World} {k : IntKind} {A : Option Addr} {n c : Nat} {l : List Int} (h : Sl w k A n c l) (m : Nat) : Sl (w.drewN m) k A n c l := h
theorem own_cap {w : World} {B : Nat} {e : TypeId} {size n c : Nat} {G : Option Addr} {xs : List Value} (h : w.ownsRow B e size (.slice G n c) n xs) : n ≤ c ∧ c ≤ 9223372036854775807 := by
  rcases h.2 with ⟨h1, rfl⟩ | ⟨g, cap, cur, h1, _, _, h2, h3, _⟩
  · injection h1 with _ _ h1; omega
  · injection h1 with _ _ h1; subst h1; unfold maxLen at h3; omega
theorem Sl.of_own {w : World} {k : IntKind} {A : Option Addr} {n c : Nat} {l : List Int} {base : Nat} {e : TypeId} (h : w.ownsRow base e 1 (.slice A n c) n (l.map (Value.int k))) : Sl w k A n c l := ⟨Ri.of_own h, own_cap h⟩

/-- Bytes and an error's number are handed back; the bytes read as l; what was there is as it was. -/
def BytesErr (w : World) (l : List Int) (er : Int) (e : Ending) (w' : World) : Prop :=
  ∃ G n c, e = .returned (.tuple #[.slice G n c, .int .i64 er]) ∧ Sl w' .u8 G n c l ∧ Below w.heap.size w w'
/-- Bytes are handed back. -/
def BytesOut (w : World) (l : List Int) (e : Ending) (w' : World) : Prop :=
  ∃ G n c, e = .returned (.slice G n c) ∧ Sl w' .u8 G n c l ∧ Below w.heap.size w w'

theorem results_tmp4 {fn : Func} {t u v x : Tmp} (h : fn.results = #[.tmp t, .tmp u, .tmp v, .tmp x]) (tmps : Array Value) (P : Program) (w : World) :
    (results fn tmps).run P w = .ok (.tuple #[tmps.getD t undef, tmps.getD u undef, tmps.getD v undef, tmps.getD x undef]) w := by simp [results, h]
theorem results_tmp5 {fn : Func} {t u v x y : Tmp} (h : fn.results = #[.tmp t, .tmp u, .tmp v, .tmp x, .tmp y]) (tmps : Array Value) (P : Program) (w : World) :
    (results fn tmps).run P w = .ok (.tuple #[tmps.getD t undef, tmps.getD u undef, tmps.getD v undef, tmps.getD x undef, tmps.getD y undef]) w := by simp [results, h]

theorem ret_int {k : IntKind} {a b : Int} (h : a = b) : Ending.returned (.int k a) = .returned (.int k b) := by rw [h]
theorem ret_bool {a b : Bool} (h : a = b) : Ending.returned (.bool a) = .returned (.bool b) := by rw [h]
end Go.Proofs.YtmejoococajikaaGreat

/- Joined texts: Open, OpenV, Shown14, LawI1, SameV, LawI2. Each has its own head line. No condition beyond those that its theorems state. -/
import Derived.ProofKit
import Derived.OpenShut
import Derived.ShutString
import Derived.ChangeOld
import Derived.Below
import Derived.Deep.Slices
import Derived.BigQuiet
import Derived.Deep.QuietTactic
import Derived.Laws.StructEq
import Derived.Test.YtbmooemlekckbaaGreatDoorJ01
import Derived.Test.YtbmooemlekckbaaGreatDoorJ05
import Derived.Test.YtbmooemlekckbaaGreatDoorJ41
import Derived.Test.YtbmooemlekckbaaGreatDoorJ42
import Derived.Test.YtbmooemlekckbaaGreatDoorJ47
set_option linter.unusedVariables false

/- From the data that a row speaks of to what a walk is told. -/
namespace Go.Proofs.YtbmooemlekckbaaGreatDoor
open Go.ChangeShapes Go.WideShapes Go.ChangeAt Go.RowKit
open Go.ChangeMaps (open_string shut_string)

theorem wf_i64 {n : Int} (h : (Lit.int .i64 n).wf = true) : -9223372036854775808 ≤ n ∧ n < 9223372036854775808 := by
  have := bounds_i64 h; omega
theorem wf_u64 {n : Int} (h : (Lit.int .u64 n).wf = true) : 0 ≤ n ∧ n < 18446744073709551616 := by
  have := bounds_u64 h; omega
theorem wf_u8 {n : Int} (h : (Lit.int .u8 n).wf = true) : 0 ≤ n ∧ n < 256 := by
  have := bounds_u8 h; omega

/-- What is read of a slice of numbers that came in. -/
def IsRow (k : IntKind) (w : World) (a : Option Addr) (len cap : Nat) : Prop :=
  ∃ l : List Int, Ri w k a len l ∧ (∀ n ∈ l, (Lit.int k n).wf = true) ∧ len ≤ cap ∧ cap ≤ maxLen

theorem open_row {H : Type} {enc : TypeId × Value → H} {P : Program} {t e : TypeId} {k : IntKind} (ht : P.underlying t = some (.slice e)) (he : P.underlying e = some (.int k)) (hc : P.cellsOf e = 1)
    {W : World} {a : Option Addr} {len cap : Nat} {d : DataW H} {p : List MemPlace} {b : Nat} {sp : Nat → Bool} {hd : Bool}
    (h : DataW.Trod enc P W b sp hd t (.slice a len cap) d p) : IsRow k W a len cap := by
  obtain ⟨fuel, hf⟩ := h
  rcases open_ints ht he hc hf with ⟨hcs, _⟩ | ⟨x, l, c, zs, hcs, _, hl, hm, hz, _, hcell, hwz⟩
  · simp [Value.cells] at hcs
    obtain ⟨rfl, rfl, rfl⟩ := hcs
    exact ⟨[], Ri.nil _ _ _, by simp, Nat.le_refl _, Nat.zero_le _⟩
  · simp [Value.cells] at hcs
    obtain ⟨rfl, rfl, rfl⟩ := hcs
    have hz' : len ≤ zs.length := by rw [hz]; split <;> omega
    have hll : (zs.take len).length = len := by rw [List.length_take]; omega
    refine ⟨zs.take len, ⟨by simpa using hll, fun h0 => ?_⟩, fun n hn => hwz n (List.mem_of_mem_take hn), hl, hm⟩
    obtain ⟨bl, off, spot⟩ := x
    have hc0 := hcell 0 (by omega)
    have hspot : spot = none := by simpa [Addr.add] using World.cell?_spot hc0
    subst hspot
    refine ⟨bl, off, rfl, ?_, fun j u hj => ?_⟩
    · rw [add_none] at hc0
      exact World.block_lt_of_cell? _ _ hc0
    · have hjl : j < len := by
        rcases Nat.lt_or_ge j len with h | h
        · exact h
        · rw [List.getElem?_eq_none (by rw [List.length_map, hll]; exact h)] at hj; cases hj
      have hcj := hcell j (by omega)
      rw [add_none] at hcj
      rw [hcj]
      simp [List.getElem?_take_of_lt hjl, List.getElem?_eq_getElem (show j < zs.length by omega)] at hj
      simp [List.getD, List.getElem?_eq_getElem (show j < zs.length by omega), hj]

theorem row_u8 {w : World} {a : Option Addr} {len cap : Nat} (h : IsRow .u8 w a len cap) : ∃ l : List Int, Ri w .u8 a len l ∧ U8 l ∧ len ≤ cap ∧ cap ≤ maxLen := by
  obtain ⟨l, h1, h2, h3, h4⟩ := h
  exact ⟨l, h1, fun x hx => wf_u8 (h2 x hx), h3, h4⟩
theorem row_u64 {w : World} {a : Option Addr} {len cap : Nat} (h : IsRow .u64 w a len cap) : ∃ l : List Int, Ri w .u64 a len l ∧ U64 l ∧ len ≤ cap ∧ cap ≤ maxLen := by
  obtain ⟨l, h1, h2, h3, h4⟩ := h
  exact ⟨l, h1, fun x hx => wf_u64 (h2 x hx), h3, h4⟩
theorem row_i64 {w : World} {a : Option Addr} {len cap : Nat} (h : IsRow .i64 w a len cap) : ∃ l : List Int, Ri w .i64 a len l ∧ I64 l ∧ len ≤ cap ∧ cap ≤ maxLen := by
  obtain ⟨l, h1, h2, h3, h4⟩ := h
  exact ⟨l, h1, fun x hx => wf_i64 (h2 x hx), h3, h4⟩
end Go.Proofs.YtbmooemlekckbaaGreatDoor

/- Rows of values that came in. -/
namespace Go.Proofs.YtbmooemlekckbaaGreatDoor
open Go.ChangeShapes Go.WideShapes Go.ChangeAt Go.RowKit

/-- A value's number and text are some of the language's. -/
def Val.fits (v : Val) : Prop := (-9223372036854775808 ≤ v.n ∧ v.n < 9223372036854775808) ∧ v.s.size ≤ maxLen
theorem open_val {H : Type} {enc : TypeId × Value → H} {P : Program} {e b i s : TypeId} {f0 f1 f2 : Field} (he : P.underlying e = some (.struct #[f0, f1, f2]))
    (h0 : f0.offset = 0 ∧ P.cellsOf f0.type = 1 ∧ f0.type = b) (h1 : f1.offset = 1 ∧ P.cellsOf f1.type = 1 ∧ f1.type = i) (h2 : f2.offset = 2 ∧ P.cellsOf f2.type = 1 ∧ f2.type = s)
    (hb : P.underlying b = some .bool) (hi : P.underlying i = some (.int .i64)) (hs : P.underlying s = some .string)
    {W : World} {base : Nat} {spare : Nat → Bool} {held : Bool} {fuel : Nat} {cs : List Value} {x : DataW H × List MemPlace} (hl : cs.length = 3) (h : DataW.trod enc P W base spare held fuel e cs = some x) :
    ∃ v : Val, cs = v.cells ∧ v.fits := by
  obtain ⟨xs, n, _, _, _, hlen, hf⟩ := DataW.trod_struct he h
  obtain ⟨c0, c1, c2, rfl⟩ : ∃ c0 c1 c2, cs = [c0, c1, c2] := by
    match cs, hl with
    | [c0, c1, c2], _ => exact ⟨c0, c1, c2, rfl⟩
  have g0 := hf 0 f0 rfl
  have g1 := hf 1 f1 rfl
  have g2 := hf 2 f2 rfl
  rw [h0.1, h0.2.1, h0.2.2] at g0
  rw [h1.1, h1.2.1, h1.2.2] at g1
  rw [h2.1, h2.2.1, h2.2.2] at g2
  simp only [List.drop_zero, List.drop_succ_cons, List.take_succ_cons, List.take_zero] at g0 g1 g2
  match xs, hlen with
  | [y0, y1, y2], _ =>
    simp only [List.getElem?_cons_zero, List.getElem?_cons_succ] at g0 g1 g2
    obtain ⟨b0, e0, _⟩ := DataW.trod_bool hb g0
    obtain ⟨n0, e1, _, w1⟩ := DataW.trod_int hi g1
    obtain ⟨s0, e2, _, w2⟩ := DataW.trod_string hs g2
    refine ⟨⟨b0, n0, s0⟩, ?_, wf_i64 w1, w2⟩
    injection e0 with e0 _
    injection e1 with e1 _
    injection e2 with e2 _
    rw [e0, e1, e2]; rfl
instance : Inhabited Val := ⟨Val.zero⟩
theorem flat_get (len : Nat) (f : Nat → Val) : ∀ (j : Nat) (u : Value), (cellsV ((List.range len).map f))[j]? = some u → j / 3 < len ∧ (j % 3 = 0 → u = .bool (f (j / 3)).null) ∧ (j % 3 = 1 → u = .int .i64 (f (j / 3)).n) ∧ (j % 3 = 2 → u = .string (f (j / 3)).s) := by
  intro j u hu
  have hj : j < (cellsV ((List.range len).map f)).length := (List.getElem?_eq_some_iff.1 hu).1
  rw [cellsV_len, List.length_map, List.length_range] at hj
  have hq : j / 3 < len := by omega
  obtain ⟨v, h1, h2, h3, h4⟩ := cellsV_get ((List.range len).map f) (j / 3) (by simpa using hq)
  have hv : v = f (j / 3) := by
    rw [List.getElem?_map, List.getElem?_range hq] at h1
    simpa using h1.symm
  subst hv
  refine ⟨hq, fun h => ?_, fun h => ?_, fun h => ?_⟩
  · rw [show j / 3 * 3 = j from by omega, hu] at h2; injection h2
  · rw [show j / 3 * 3 + 1 = j from by omega, hu] at h3; injection h3
  · rw [show j / 3 * 3 + 2 = j from by omega, hu] at h4; injection h4
theorem open_vals {H : Type} {enc : TypeId × Value → H} {P : Program} {t e b i s : TypeId} {f0 f1 f2 : Field} (ht : P.underlying t = some (.slice e)) (he : P.underlying e = some (.struct #[f0, f1, f2]))
    (h0 : f0.offset = 0 ∧ P.cellsOf f0.type = 1 ∧ f0.type = b) (h1 : f1.offset = 1 ∧ P.cellsOf f1.type = 1 ∧ f1.type = i) (h2 : f2.offset = 2 ∧ P.cellsOf f2.type = 1 ∧ f2.type = s)
    (hb : P.underlying b = some .bool) (hi : P.underlying i = some (.int .i64)) (hs : P.underlying s = some .string) (hc : P.cellsOf e = 3)
    {W : World} {a : Option Addr} {len cap : Nat} {d : DataW H} {p : List MemPlace} {base : Nat} {hd : Bool}
    (h : DataW.Trod enc P W base (fun _ => true) hd t (.slice a len cap) d p) : ∃ l : List Val, Rv W a len l ∧ (∀ v ∈ l, v.fits) ∧ len ≤ cap ∧ cap ≤ maxLen := by
  obtain ⟨fuel, hf⟩ := h
  rcases Go.Deep.open_slice ht hf with ⟨hcs, _⟩ | ⟨x, l, c, m, n, D, Pl, hcs, _, hl, hm, hmm, _, hel⟩
  · simp [Value.cells] at hcs
    obtain ⟨rfl, rfl, rfl⟩ := hcs
    exact ⟨[], Rv.nil _ _, fun v hv => (by cases hv), Nat.le_refl _, Nat.zero_le _⟩
  · simp [Value.cells] at hcs
    obtain ⟨rfl, rfl, rfl⟩ := hcs
    rw [if_pos rfl] at hmm
    subst hmm
    have key : ∀ k, k < len → ∃ v : Val, v.fits ∧ W.cell? ((x.add (k * 3)).add 0) = some (.bool v.null) ∧ W.cell? ((x.add (k * 3)).add 1) = some (.int .i64 v.n) ∧ W.cell? ((x.add (k * 3)).add 2) = some (.string v.s) := by
      intro k hk
      obtain ⟨cs', g1, g2⟩ := hel k (by omega)
      rw [hc] at g1
      obtain ⟨_, g3, g4⟩ := World.cells?_some g1
      obtain ⟨v, rfl, hv⟩ := open_val he h0 h1 h2 hb hi hs g3 g2
      exact ⟨v, hv, g4 0 (by omega), g4 1 (by omega), g4 2 (by omega)⟩
    obtain ⟨f, hf2⟩ := Go.Deep.choose_lt key
    refine ⟨(List.range len).map f, ⟨by rw [cellsV_len]; simp, fun h0 => ?_⟩, fun v hv => ?_, hl, hm⟩
    · obtain ⟨bl, off, spot⟩ := x
      have hc0 := (hf2 0 (by omega)).2.1
      have hspot : spot = none := by simpa [Addr.add] using World.cell?_spot hc0
      subst hspot
      simp only [add_none] at hf2 hc0
      refine ⟨bl, off, rfl, World.block_lt_of_cell? _ _ hc0, fun j u hu => ?_⟩
      obtain ⟨hq, k0, k1, k2⟩ := flat_get len f j u hu
      obtain ⟨_, c0, c1, c2⟩ := hf2 (j / 3) hq
      have h3 : j % 3 = 0 ∨ j % 3 = 1 ∨ j % 3 = 2 := by omega
      rcases h3 with h | h | h
      · rw [k0 h, ← c0, show off + j / 3 * 3 + 0 = off + j from by omega]
      · rw [k1 h, ← c1, show off + j / 3 * 3 + 1 = off + j from by omega]
      · rw [k2 h, ← c2, show off + j / 3 * 3 + 2 = off + j from by omega]
    · obtain ⟨k, hk, rfl⟩ := List.mem_map.1 hv
      exact (hf2 k (List.mem_range.1 hk)).1
end Go.Proofs.YtbmooemlekckbaaGreatDoor

/- ints' laws: the head. -/
namespace Go.Proofs.YtbmooemlekckbaaGreatDoor
open Go.RowKit

theorem empty_s : (⟨#[]⟩ : ByteArray).toList = [] := by rw [ByteArray.toList_eq]
theorem ok_num (k n : Int) : okI k (numV n) = (decide (k ≠ 1) || (decide (n = 0) || decide (n = 1))) := by
  unfold okI numV
  rw [empty_s]; rfl
theorem Rv_lit4 (w : World) (l : List Val) (t : TypeId) (cs : Array Value) (hcs : cs = (cellsV l).toArray) (n : Nat) (hn : l.length = n) : Rv (w.alloc (.cells cs t)) (some ⟨w.heap.size, 0, none⟩) n l := by
  subst hcs
  refine ⟨by rw [cellsV_len, hn], fun _ => ⟨w.heap.size, 0, rfl, by simp, fun j u hu => ?_⟩⟩
  rw [Nat.zero_add, (Blk.new w t _).cell]; simpa using hu
set_option maxRecDepth 100000 in
set_option maxHeartbeats 1000000 in
theorem shown14_any (w : World) :
    Calls Tryz.prog 5 #[] w fun e w' => e = .returned (.bool true) ∧ Below w.heap.size w w' := by
  have h1 : putIn 1 [numV 1, numV 0, numV 1] = ([255, 160], 0) := by
    unfold putIn
    rw [show isNum 1 = true from rfl, if_neg (by simp), if_neg (by decide), show [numV 1, numV 0, numV 1].all (okI 1) = true from by simp [ok_num], if_neg (by simp), if_pos rfl]
    decide +kernel
  have h2 : putIn 5 [numV 1001, numV 1001, numV 1001] = ([0, 2, 0, 1], 0) := by
    unfold putIn
    rw [show isNum 5 = true from rfl, if_neg (by simp), if_neg (by decide), show [numV 1001, numV 1001, numV 1001].all (okI 5) = true from by simp [ok_num], if_neg (by simp), if_neg (by decide), if_pos rfl]
    decide +kernel
  have h3 : putIn 6 [] = ([], 1) := by
    unfold putIn
    rw [show isNum 6 = false from rfl, if_pos rfl]
  have H1 := Lib.hid h1; have H2 := Lib.hid h2; have H3 := Lib.hid h3
  clear h1 h2 h3
  have hf : ∀ x : Int, x = 0 ∨ x = 1 ∨ x = 1001 → -9223372036854775808 ≤ (numV x).n ∧ (numV x).n < 9223372036854775808 := by
    intro x hx
    show -9223372036854775808 ≤ x ∧ x < 9223372036854775808
    omega
  have HF1 : Hid (∀ v ∈ [numV 1, numV 0, numV 1], -9223372036854775808 ≤ v.n ∧ v.n < 9223372036854775808) := by
    refine Lib.hid (fun v hv => ?_)
    simp only [List.mem_cons, List.not_mem_nil, or_false] at hv
    rcases hv with rfl | rfl | rfl <;> exact hf _ (by omega)
  have HF2 : Hid (∀ v ∈ [numV 1001, numV 1001, numV 1001], -9223372036854775808 ≤ v.n ∧ v.n < 9223372036854775808) := by
    refine Lib.hid (fun v hv => ?_)
    simp only [List.mem_cons, List.not_mem_nil, or_false] at hv
    rcases hv with rfl | rfl | rfl <;> exact hf _ (by omega)
  clear hf
  go_enter Tryz.func5, Tryz.ntmps5
  go_wp2_with fail
  refine (PutIn_any _ 1 _ 3 3 _ (Rv_lit4 _ [numV 1, numV 0, numV 1] _ _ rfl _ rfl) HF1.out (by omega) _ _ H1.out).mono ?_; rintro e w1 ⟨G1, n1, c1, rfl, hs1, hb1⟩
  have HB1 := Lib.hid (on ((Below.refl w.heap.size w).alloc (Nat.le_refl _) _) hb1)
  go_wp2_with fail
  refine (PutIn_any _ 5 _ 3 3 _ (Rv_lit4 _ [numV 1001, numV 1001, numV 1001] _ _ rfl _ rfl) HF2.out (by omega) _ _ H2.out).mono ?_; rintro e w2 ⟨G2, n2, c2, rfl, hs2, hb2⟩
  have hb12 := on ((Below.refl w1.heap.size w1).alloc (Nat.le_refl _) _) hb2
  have HB2 := Lib.hid (on HB1.out hb12)
  go_wp2_with fail
  refine (PutIn_any _ 6 _ 0 0 [] (Rv.nil _ _) (fun v hv => by cases hv) (by omega) _ _ H3.out).mono ?_; rintro e w3 ⟨G3, n3, c3, rfl, hs3, hb3⟩
  have HB3 := Lib.hid (on HB2.out hb3)
  have cv1 := conv_any (c := c1) ((hs1.1.below hb12).below hb3)
  have cv2 := conv_any (c := c2) (hs2.1.below hb3)
  have s1 : (strOf [255, 160]).toList = [255, 160] := strOf_toList _
  have s2 : (strOf [0, 2, 0, 1]).toList = [0, 2, 0, 1] := strOf_toList _
  clear hs1 hb1 hs2 hb2 hs3 hb3 hb12
  go_wp2_with fail
  go_ret
  exact ⟨rfl, HB3.out⟩

def FewOutV4 (w : World) (A : Option Addr) (n k : Nat) (l : List Val) (e : Ending) (w' : World) : Prop :=
  ∃ m c, e = .returned (.slice A m c) ∧ w' = w ∧ m ≤ c ∧ c ≤ 9223372036854775807 ∧ m ≤ k ∧ m ≤ n ∧ Rv w A m (l.take k)
set_option maxHeartbeats 400000 in
theorem few14_any (w : World) (A : Option Addr) (n c : Nat) (l : List Val) (hr : Rv w A n l) (hc : n ≤ c) (hcm : c ≤ 9223372036854775807) :
    Calls Tryz.prog 6 #[.slice A n c] w (FewOutV4 w A n 600 l) := by
  have HR := Lib.hid hr; clear hr
  rcases Nat.lt_or_ge 600 n with h | h
  · go_enter Tryz.func6, Tryz.ntmps6
    go_wp2_with fail
    go_ret
    exact ⟨600, c, rfl, rfl, by omega, hcm, Nat.le_refl _, by omega, HR.out.first (by omega)⟩
  · go_enter Tryz.func6, Tryz.ntmps6
    go_wp2_with fail
    go_ret
    exact ⟨n, c, rfl, rfl, hc, hcm, h, Nat.le_refl _, by rw [List.take_of_length_le (by rw [HR.out.len]; exact h)]; exact HR.out⟩
end Go.Proofs.YtbmooemlekckbaaGreatDoor

/- The walk through IntsPuts. -/
namespace Go.Proofs.YtbmooemlekckbaaGreatDoor
open Go.RowKit

def fitN (l : List Val) : Prop := ∀ v ∈ l, -9223372036854775808 ≤ v.n ∧ v.n < 9223372036854775808
set_option maxRecDepth 100000 in
set_option maxHeartbeats 1000000 in
theorem IntsPuts_walk (w : World) (k : Int) (_hk : -9223372036854775808 ≤ k ∧ k < 9223372036854775808) (A : Option Addr) (n cap : Nat) (l : List Val) (hr : Rv w A n l) (hf0 : ∀ v ∈ l, v.fits) (hc : n ≤ cap) (hm : cap ≤ maxLen) :
    Calls Tryz.prog 3 #[.int .i64 k, .slice A n cap] w fun e w' => e = .returned (.bool true) ∧ Below w.heap.size w w' := by
  unfold maxLen at hm
  have hf : fitN l := fun v hv => (hf0 v hv).1
  have HR := Lib.hid hr; have HF : Hid (fitN (l.take 600)) := Lib.hid (fun v hv => hf v (List.mem_of_mem_take hv))
  clear hr hf hf0
  obtain ⟨r, er, hl⟩ : ∃ r er, putIn k (l.take 600) = (r, er) := ⟨_, _, rfl⟩
  have HLL := Lib.hid hl; clear hl
  go_enter Tryz.func3, Tryz.ntmps3
  go_wp2_with fail
  refine (shown14_any _).mono ?_; rintro e w1 ⟨rfl, hb1⟩
  go_wp2_with fail
  refine (few14_any _ _ _ _ l (HR.out.below hb1) hc hm).mono ?_; rintro e w1' ⟨m, c2, rfl, rfl, hmc, hcm2, hm42, hmn, hr2⟩
  have H2 := Lib.hid hr2; clear hr2
  go_wp2_with fail
  refine (PutIn_any _ k _ _ _ (l.take 600) H2.out HF.out (by omega) r er HLL.out).mono ?_; rintro e w4 ⟨G4, n4, c4, rfl, hr4, hb4⟩
  go_wp2_with fail
  refine (refPutIn_any _ k _ _ _ (l.take 600) (H2.out.below hb4) HF.out (by omega) r er HLL.out).mono ?_; rintro e w5 ⟨G5, n5, c5, rfl, hr5, hb5⟩
  have cv1 := conv_any (c := c4) (hr4.1.below hb5)
  have cv2 := conv_any (c := c5) hr5.1
  have st := strOf_same r
  generalize strOf r = S at *
  have HB := Lib.hid (on (on hb1 hb4) hb5)
  clear hr4 hr5 hb1 hb4 hb5
  go_wp2_with fail
  go_ret
  exact ⟨rfl, HB.out⟩
end Go.Proofs.YtbmooemlekckbaaGreatDoor

/- pilasterref12.SameRow of two rows that read the same. -/
namespace Go.Proofs.YtbmooemlekckbaaGreatDoor
open Go.RowKit

set_option maxRecDepth 100000 in
set_option maxHeartbeats 1000000 in
theorem SameV_any (w : World) (A B : Option Addr) (n c d : Nat) (l : List Val) (ha : Rv w A n l) (hb : Rv w B n l) (hn : n ≤ 1000000) :
    Calls Tryz.prog 11 #[.slice A n c, .slice B n d] w fun e w' => e = .returned (.bool true) ∧ Below w.heap.size w w' := by
  have HA := Lib.hid ha; have HB := Lib.hid hb; clear ha hb
  go_enter Tryz.func11, Tryz.ntmps11
  go_wp2_with fail
  go_loopw [5] (fun i wr => ∃ j : Nat, j ≤ n ∧ i = .int .i64 j ∧ Below w.heap.size w wr) (fun i _ => n - (intOf i).toNat)
  case atStart => exact ⟨0, by omega, rfl, Below.refl _ _⟩
  case round =>
    obtain ⟨j, hj, rfl, hbw⟩ := hrel
    by_cases hlt : j < n
    · obtain ⟨b1, o1, v, hA, hbl1, hv1, a1, a2, a3⟩ := HA.out.at_ hlt
      obtain ⟨b2, o2, v2, hB, hbl2, hv2, c1, c2, c3⟩ := HB.out.at_ hlt
      obtain rfl : v = v2 := by rw [hv1] at hv2; injection hv2
      subst hA hB
      have g1 := (hbw.cell (p := ⟨b1, o1 + j * 3, none⟩) hbl1).trans a1
      have g2 := (hbw.cell (p := ⟨b1, o1 + j * 3 + 1, none⟩) hbl1).trans a2
      have g3 := (hbw.cell (p := ⟨b1, o1 + j * 3 + 2, none⟩) hbl1).trans a3
      have k1 := (hbw.cell (p := ⟨b2, o2 + j * 3, none⟩) hbl2).trans c1
      have k2 := (hbw.cell (p := ⟨b2, o2 + j * 3 + 1, none⟩) hbl2).trans c2
      have k3 := (hbw.cell (p := ⟨b2, o2 + j * 3 + 2, none⟩) hbl2).trans c3
      clear hv1 hv2 a1 a2 a3 c1 c2 c3
      go_wp2_with fail
      go_quiet (fail)
      go_wp2_with fail
      go_roundw
      case rel => exact ⟨j + 1, by omega, by go_num, below_drewN hbw _⟩
      case measure => simp [intOf] <;> omega
    · go_wp2_with fail
      go_ret
      exact ⟨rfl, by first | exact hbw | exact below_drewN hbw _⟩
end Go.Proofs.YtbmooemlekckbaaGreatDoor

/- The walk through IntsTakes. -/
namespace Go.Proofs.YtbmooemlekckbaaGreatDoor
open Go.RowKit

theorem plainR_len (b : List Int) (m : Int) (t : Bool) (hb : U8 b) : (plainR b m t).1.length ≤ 4096 := by
  have h := (takeGl_good b m true hb).2
  unfold plainR
  split
  · simp
  · split
    · split
      · simp
      · split
        · rw [List.length_map, List.length_zip]; omega
        · simp
    · rw [List.length_map]; exact h
theorem takeIn_len (k : Int) (b : List Int) (m : Int) (hb : U8 b) : (takeIn k b m).1.length ≤ 4096 := by
  have h1 : (truthsR b m).1.length ≤ 4096 := by unfold truthsR; rw [List.length_map]; exact takeB_lenI b m
  have h2 := plainR_len b m (decide (k = 5)) hb
  unfold takeIn
  split
  · simp
  · split
    · unfold finI
      split
      · simp
      · exact h1
    · unfold finI
      split
      · simp
      · exact h2
theorem cut_ri15 {w : World} {kd : IntKind} {A : Option Addr} {n : Nat} {l : List Int} (h : Ri w kd A n l) (K : Nat) :
    (K < n ∧ (∃ b o, A = some ⟨b, o, none⟩) ∧ Ri w kd A K (l.take K)) ∨ (n ≤ K ∧ Ri w kd A n (l.take K)) := by
  rcases Nat.lt_or_ge K n with h1 | h1
  · obtain ⟨b, o, e, _⟩ := h.all (by omega)
    exact .inl ⟨h1, ⟨b, o, e⟩, h.first (by omega)⟩
  · exact .inr ⟨h1, by rw [List.take_of_length_le (by rw [h.len]; exact h1)]; exact h⟩

set_option maxRecDepth 100000 in
set_option maxHeartbeats 2000000 in
theorem IntsTakes_walk (w : World) (k : Int) (_hk : -9223372036854775808 ≤ k ∧ k < 9223372036854775808) (A : Option Addr) (n cap : Nat) (b : List Int) (hr : Ri w .u8 A n b) (hu : U8 b) (hc : n ≤ cap) (hm : cap ≤ maxLen) (many : Int) (_hm : -9223372036854775808 ≤ many ∧ many < 9223372036854775808) :
    Calls Tryz.prog 4 #[.int .i64 k, .slice A n cap, .int .i64 many] w fun e w' => e = .returned (.bool true) ∧ Below w.heap.size w w' := by
  unfold maxLen at hm
  have HU := Lib.hid (hu.take 1500)
  obtain ⟨l, er, hl⟩ : ∃ l er, takeIn k (b.take 1500) many = (l, er) := ⟨_, _, rfl⟩
  have hg := takeIn_len k (b.take 1500) many (hu.take 1500)
  rw [hl] at hg
  dsimp only at hg
  have HL := Lib.hid hl
  clear hl hu
  rcases cut_ri15 hr 1500 with ⟨h1, ⟨bb, oo, rfl⟩, h2⟩ | ⟨h1, h2⟩
  all_goals
    have H2 := Lib.hid h2
    clear hr h2
    go_enter Tryz.func4, Tryz.ntmps4
    go_wp2_with fail
    refine (shown14_any _).mono ?_; rintro e w1 ⟨rfl, hb1⟩
    have HB1 := Lib.hid hb1; clear hb1
    go_wp2_with (at_builtin; refine wpList_u8 _ rfl _ _ rfl w1.heap.size _ 0 [] rfl (own_empty w1 _ 1) _ _ _ (b.take 1500) rfl ((H2.out.below HB1.out).alloc _) (by omega) (by simp) ?_; intro G3 c3 w3 hown hgr hcc)
    have hb3 := push0 ((Below.refl w1.heap.size w1).alloc (Nat.le_refl _) _) (Nat.le_refl _) (own_empty w1 _ 1) hgr
    rw [Nat.zero_add, List.nil_append] at hown
    have hs3 := Sl.of_own hown
    have HO := Lib.hid hs3
    have HB3 := Lib.hid hb3
    clear hown hgr hcc hs3 hb3
    refine (TakeIn_any _ k many _ _ _ (b.take 1500) HO.out.1 HU.out HO.out.2.1 HO.out.2.2 (by omega) l er HL.out).mono ?_; rintro e w4 ⟨G4, n4, c4, rfl, hs4, hb4⟩
    go_wp2_with fail
    refine (refTakeIn_any _ k many _ _ _ (b.take 1500) (((H2.out.below HB1.out).below HB3.out).below hb4) HU.out (by omega) (by omega) (by omega) l er HL.out).mono ?_; rintro e w5 ⟨G6, n6, c6, rfl, hs6, hb5⟩
    have q4 : n4 = n6 := by rw [← hs4.1.len, ← hs6.1.len]
    have q5 : n4 ≤ 4096 := by rw [← hs4.1.len]; exact hg
    subst q4
    go_wp2_with fail
    refine (SameV_any _ _ _ _ _ _ l (hs4.1.below hb5) hs6.1 (by omega)).mono ?_; rintro e w6 ⟨rfl, hb6⟩
    have HB := Lib.hid (on (on (on (on HB1.out HB3.out) hb4) hb5) hb6)
    clear hs4 hs6 hb4 hb5 hb6
    go_wp2_with fail
    go_ret
    exact ⟨rfl, HB.out⟩
end Go.Proofs.YtbmooemlekckbaaGreatDoor

/- Joined texts: NulD. Each has its own head line. No condition beyond those that its theorems state. -/
import Derived.Lib.SliceRun
import Derived.Test.YtlmfdmaoakckgaaJ16
set_option linter.unusedVariables false

/- slices.DeleteFunc of what is nothing, in place. -/
namespace Go.Proofs.Ytlmfdmaoakckgaa
open Go.RowKit

def someV (l : List Val) : List Val := l.filter fun v => !v.null
theorem someV_snoc (l : List Val) (j : Nat) (v : Val) (h : l[j]? = some v) : someV (l.take (j + 1)) = someV (l.take j) ++ if v.null then [] else [v] := by
  unfold someV
  rw [List.take_add_one, h, Option.toList_some, List.filter_append]
  cases hv : v.null <;> simp [hv]
theorem someV_all (l : List Val) (h : ∀ (q : Nat) (v : Val), l[q]? = some v → v.null = false) : someV l = l := by
  unfold someV
  rw [List.filter_eq_self]
  intro v hv
  obtain ⟨q, hq⟩ := List.mem_iff_getElem?.1 hv
  rw [h q v hq]; rfl
theorem cellsV_set (M : List Val) : ∀ (i : Nat) (v : Val), (((cellsV M).set (i * 3) (.bool v.null)).set (i * 3 + 1) (.int .i64 v.n)).set (i * 3 + 2) (.string v.s) = cellsV (M.set i v) := by
  induction M with
  | nil => intro i v; simp [cellsV]
  | cons u t ih =>
    intro i v
    have e : ∀ (x : Val) (y : List Val), cellsV (x :: y) = .bool x.null :: .int .i64 x.n :: .string x.s :: cellsV y := fun x y => by simp [cellsV, Val.cells]
    cases i with
    | zero => simp [e]
    | succ i =>
      rw [List.set_cons_succ, e, e, ← ih i v, show (i + 1) * 3 = i * 3 + 1 + 1 + 1 from by omega]
      simp [List.set_cons_succ]
theorem own_set3 {w : World} {base g n cap i : Nat} {e : TypeId} {M : List Val} (h : w.ownsRow base e 3 (.slice (some ⟨g, 0, none⟩) n cap) n (cellsV M)) (v : Val) :
    (((w.setCell ⟨g, i * 3, none⟩ (.bool v.null)).setCell ⟨g, i * 3 + 1, none⟩ (.int .i64 v.n)).setCell ⟨g, i * 3 + 2, none⟩ (.string v.s)).ownsRow base e 3 (.slice (some ⟨g, 0, none⟩) n cap) n (cellsV (M.set i v)) := by
  have h1 := ((h.stored (i * 3) (.bool v.null)).1.stored (i * 3 + 1) (.int .i64 v.n)).1.stored (i * 3 + 2) (.string v.s) |>.1
  rwa [cellsV_set] at h1
theorem own_cells3 {w : World} {base g n cap i : Nat} {e : TypeId} {M : List Val} (h : w.ownsRow base e 3 (.slice (some ⟨g, 0, none⟩) n cap) n (cellsV M)) (hi : i < n) :
    ∃ v, M[i]? = some v ∧ w.cell? ⟨g, i * 3, none⟩ = some (.bool v.null) ∧ w.cell? ⟨g, i * 3 + 1, none⟩ = some (.int .i64 v.n) ∧ w.cell? ⟨g, i * 3 + 2, none⟩ = some (.string v.s) ∧ w.frozen? ⟨g, i * 3, none⟩ = false ∧ w.frozen? ⟨g, i * 3 + 1, none⟩ = false ∧ w.frozen? ⟨g, i * 3 + 2, none⟩ = false := by
  have hl : M.length = n := (Rv.of_own h).len
  obtain ⟨v, h1, h2, h3, h4⟩ := cellsV_get M i (by omega)
  exact ⟨v, h1, (h.cellAt _ (by omega)).trans h2, (h.cellAt _ (by omega)).trans h3, (h.cellAt _ (by omega)).trans h4, h.frozenAt _, h.frozenAt _, h.frozenAt _⟩
theorem own_setCells {base g n cap : Nat} {e : TypeId} (L : List Value) : ∀ (o : Nat) (w : World) (xs : List Value), w.ownsRow base e 3 (.slice (some ⟨g, 0, none⟩) n cap) n xs →
    ∃ xs', (w.setCells g o L).ownsRow base e 3 (.slice (some ⟨g, 0, none⟩) n cap) n xs' ∧ xs'.take o = xs.take o := by
  induction L with
  | nil => intro o w xs h; exact ⟨xs, h, rfl⟩
  | cons v t ih =>
    intro o w xs h
    obtain ⟨xs', h1, h2⟩ := ih (o + 1) _ _ (h.stored o v).1
    refine ⟨xs', h1, ?_⟩
    have h3 := congrArg (List.take o) h2
    rw [List.take_take, List.take_take, Nat.min_eq_left (by omega)] at h3
    rw [h3, List.take_set_of_le (Nat.le_refl o)]
theorem below_setCells {B g : Nat} (hB : B ≤ g) (L : List Value) : ∀ (o : Nat) (w0 w : World), Below B w0 w → Below B w0 (w.setCells g o L) := by
  induction L with
  | nil => intro o w0 w h; exact h
  | cons v t ih => intro o w0 w h; exact ih _ _ _ (h.setCell (p := ⟨g, o, none⟩) hB v)
theorem own_cut {w : World} {base g n cap m : Nat} {e : TypeId} {xs : List Value} (h : w.ownsRow base e 3 (.slice (some ⟨g, 0, none⟩) n cap) n xs) (hm : m ≤ n) : w.ownsRow base e 3 (.slice (some ⟨g, 0, none⟩) m cap) m (xs.take (m * 3)) := by
  rcases h with ⟨hl, h⟩
  refine ⟨by rw [List.length_take]; omega, ?_⟩
  rcases h with ⟨h1, h2⟩ | ⟨g', cap', cur, h1, h2, h3, h4, h5, h6, h7⟩
  · cases h1
  · right
    injection h1 with h1 _ hc
    injection h1 with h1
    injection h1 with h1 _ _
    subst h1 hc
    refine ⟨g, cap, cur, rfl, h2, h3, by omega, h5, h6, ?_⟩
    rw [← h7, List.take_take, Nat.min_eq_left (by omega)]
theorem run_clear_cells {P : Program} (w : World) (t e ty : TypeId) (z : Value) (ht : P.underlying t = some (.slice e)) (hv : ∀ w, (zeroValue e).run P w = .ok z w) (b o n c : Nat) (hn : 0 < n)
    (h1 : ∀ v ∈ (Builtin.zeroCells z.cells n).toList, v.oneCell' = true)
    (hc : ∀ j, j < (Builtin.zeroCells z.cells n).toList.length → (w.cell? ⟨b, o + j, none⟩).isSome = true) (hf : ∀ j, j < (Builtin.zeroCells z.cells n).toList.length → w.frozen? ⟨b, o + j, none⟩ = false) :
    (Builtin.clear_ #[t] ty #[.slice (some ⟨b, o, none⟩) n c]).run P w = .ok (.tuple #[]) (w.setCells b o (Builtin.zeroCells z.cells n).toList) := by
  have hst := run_storeCells_cells (P := P) b o (Builtin.zeroCells z.cells n).toList 0 w (by simpa using hc) (by simpa using hf) h1
  simp only [Nat.add_zero] at hst
  obtain ⟨m, rfl⟩ : ∃ m, n = m + 1 := ⟨n - 1, by omega⟩
  simp [Builtin.clear_, run_underlying ht, hv, hst]
def zeroV : Value := .agg #[.bool false, .int .i64 0, .string ⟨#[]⟩]
theorem zeroV_cells (n : Nat) : (Builtin.zeroCells zeroV.cells n).toList.length = n * 3 ∧ ∀ v ∈ (Builtin.zeroCells zeroV.cells n).toList, v.oneCell' = true := by
  refine ⟨by simp [Builtin.zeroCells, zeroV, Value.cells], fun v hv => ?_⟩
  simp [Builtin.zeroCells, zeroV, Value.cells] at hv
  obtain ⟨a, _, rfl⟩ := hv
  have h3 : a % 3 = 0 ∨ a % 3 = 1 ∨ a % 3 = 2 := by omega
  rcases h3 with h | h | h <;> rw [h] <;> rfl
theorem take_drop_at {l M : List Val} {j : Nat} (h : M.drop j = l.drop j) : M[j]? = l[j]? := by
  have := congrArg (fun x => x[0]?) h
  simpa using this
theorem set_parts {l M : List Val} {i j : Nat} {v : Val} (hij : i < j) (hjl : j < M.length) (h1 : M.take i = someV (l.take j)) (h2 : M.drop j = l.drop j) (hv : l[j]? = some v) (hn : v.null = false) :
    (M.set i v).length = M.length ∧ (M.set i v).take (i + 1) = someV (l.take (j + 1)) ∧ (M.set i v).drop (j + 1) = l.drop (j + 1) := by
  refine ⟨by simp, ?_, ?_⟩
  · rw [someV_snoc l j v hv, hn, ← h1, List.take_add_one, List.take_set_of_le (Nat.le_refl _)]
    simp [show i < M.length by omega]
  · rw [List.drop_set_of_lt (by omega)]
    have := congrArg (List.drop 1) h2
    simpa [List.drop_drop, Nat.add_comm] using this
theorem skip_parts {l M : List Val} {i j : Nat} {v : Val} (h1 : M.take i = someV (l.take j)) (h2 : M.drop j = l.drop j) (hv : l[j]? = some v) (hn : v.null = true) :
    M.take i = someV (l.take (j + 1)) ∧ M.drop (j + 1) = l.drop (j + 1) := by
  refine ⟨?_, ?_⟩
  · rw [someV_snoc l j v hv, hn, h1]; simp
  · have := congrArg (List.drop 1) h2
    simpa [List.drop_drop, Nat.add_comm] using this

set_option maxRecDepth 100000 in
set_option maxHeartbeats 1000000 in
theorem DeleteV_any (w : World) (base : Nat) (hbase : base ≤ w.heap.size) (A : Option Addr) (n cap : Nat) (l : List Val) (hr : w.ownsRow base 42 3 (.slice A n cap) n (cellsV l)) (hn : n ≤ 1000000) :
    Calls Try.prog 40 #[.slice A n cap, nullFn] w fun e w' => ∃ m c, e = .returned (.slice A m c) ∧ w'.ownsRow base 42 3 (.slice A m c) m (cellsV (someV l)) ∧ Below base w w' := by
  have HO := Lib.hid hr; have HR := Lib.hid (Rv.of_own hr); have HN := Lib.hid (Rv.of_own hr).len
  have hcap := (own_cap hr).1
  have hcm := (own_cap hr).2
  have hz : ∀ w : World, (zeroValue 42).run Try.prog w = .ok zeroV w := fun _ => by kernel_rfl
  have HZ := Lib.hid hz
  clear hr hz
  unfold nullFn
  go_enter Try.func40, Try.ntmps40
  go_wp2_with fail
  refine (indexNull_any _ _ _ _ l HR.out hn).mono ?_; rintro e w1 ⟨k, rfl, hk, hb1⟩
  rcases hk with ⟨rfl, hall⟩ | ⟨i0, rfl, hi0, hbef, v0, hv0, hv1⟩
  · have HB1 := Lib.hid hb1; have HS := Lib.hid (someV_all l hall)
    clear hb1 hall
    go_wp2_with fail
    go_ret
    exact ⟨n, cap, rfl, by rw [HS.out]; exact own_below HO.out HB1.out, HB1.out.mono hbase⟩
  · rw [HN.out] at hi0
    have HB1 := Lib.hid hb1
    have hst : l.take i0 = someV (l.take (i0 + 1)) := by
      rw [someV_snoc l i0 v0 hv0, hv1, someV_all (l.take i0)]
      · simp
      · intro q v hq
        rw [List.getElem?_take] at hq
        split at hq
        · exact hbef q v ‹_› hq
        · cases hq
    have HST := Lib.hid hst
    clear hb1 hbef hv0 hv1 hst
    have hne : ((i0 : Int) == -1) = false := by simp
    have hA : ∃ g, A = some ⟨g, 0, none⟩ ∧ base ≤ g := by
      rcases HO.out.2 with ⟨h1, h2⟩ | ⟨g, c2, cur, h1, h2, _⟩
      · omega
      · injection h1 with h1 _; exact ⟨g, h1, h2⟩
    obtain ⟨g, rfl, hg⟩ := hA
    go_wp2_with fail
    go_loopw [5, 6, 7] (fun i j v wr => ∃ (i1 j1 : Nat) (M : List Val), i = .int .i64 i1 ∧ j = .int .i64 j1 ∧ i1 < j1 ∧ j1 ≤ n ∧ Hid (wr.ownsRow base 42 3 (.slice (some ⟨g, 0, none⟩) n cap) n (cellsV M)) ∧ Hid (M.length = n ∧ M.take i1 = someV (l.take j1) ∧ M.drop j1 = l.drop j1) ∧ Hid (Below base w wr)) (fun _ j _ _ => n - (intOf j).toNat)
    case atStart => exact ⟨i0, i0 + 1, l, rfl, by go_num, by omega, by omega, own_below HO.out HB1.out, ⟨HN.out, HST.out, rfl⟩, HB1.out.mono hbase⟩
    case round =>
      obtain ⟨i1, j1, M, rfl, rfl, hij, hj, ho, hm, hb⟩ := hrel
      by_cases hlt : j1 < n
      · obtain ⟨v, hv, h1, h2, h3, _, _, _⟩ := own_cells3 ho.out hlt
        have HV := Lib.hid ((take_drop_at hm.out.2.2).symm.trans hv)
        clear hv
        go_wp2_with fail
        refine (null_any _ v).mono ?_; rintro e w2 ⟨rfl, hb2⟩
        have HB2 := Lib.hid (on ((Below.refl wr.heap.size wr).alloc (Nat.le_refl _) _) hb2)
        have hk := (Blk.new wr 42 #[.bool v.null, .int .i64 v.n, .string v.s]).below_ hb2
        have k0 : w2.cell? ⟨wr.heap.size, 0, none⟩ = some (.bool v.null) := hk.cell 0
        have k1 : w2.cell? ⟨wr.heap.size, 1, none⟩ = some (.int .i64 v.n) := hk.cell 1
        have k2 : w2.cell? ⟨wr.heap.size, 2, none⟩ = some (.string v.s) := hk.cell 2
        have hz2 := hb.out.size
        have HO2 := Lib.hid (own_below ho.out HB2.out)
        have HW2 := Lib.hid (hb.out.trans (HB2.out.mono (by omega)))
        clear hb2 hk h1 h2 h3
        cases hvn : v.null
        · obtain ⟨u, _, c1, c2, c3, f1, f2, f3⟩ := own_cells3 HO2.out (i := i1) (by omega)
          have HP := Lib.hid (set_parts hij (by rw [hm.out.1]; exact hlt) hm.out.2.1 hm.out.2.2 HV.out hvn)
          have HS := Lib.hid (own_set3 HO2.out (i := i1) v)
          have HVN := Lib.hid hvn
          rw [hvn] at k0
          clear hvn
          go_wp2_with fail
          go_roundw
          case rel =>
            rw [HVN.out] at HS
            refine ⟨i1 + 1, j1 + 1, M.set i1 v, by go_num, by go_num, by omega, by omega, HS, Lib.hid ⟨by rw [HP.out.1]; exact hm.out.1, HP.out.2⟩, Lib.hid ?_⟩
            exact ((HW2.out.setCell (p := ⟨g, _, none⟩) hg _).setCell (p := ⟨g, _, none⟩) hg _).setCell (p := ⟨g, _, none⟩) hg _
          case measure => simp [intOf] <;> omega
        · have HVN := Lib.hid hvn
          clear hvn
          go_wp2_with fail
          go_roundw
          case rel =>
            have hs := skip_parts hm.out.2.1 hm.out.2.2 HV.out HVN.out
            exact ⟨i1, j1 + 1, M, rfl, by go_num, by omega, by omega, HO2, Lib.hid ⟨hm.out.1, hs.1, hs.2⟩, HW2⟩
          case measure => simp [intOf] <;> omega
      · obtain rfl : j1 = n := by omega
        have hne2 : ¬ cap = i1 := by omega
        have hi0' : (0 : Int) ≤ (i1 : Int) := by omega
        have hcl := run_clear_cells (P := Try.prog) wr 22 42 0 zeroV Try.underlying22 HZ.out g (i1 * 3) (j1 - i1) (cap - i1) (by omega) (zeroV_cells _).2
          (fun j hj => by rw [(zeroV_cells _).1] at hj; rw [ho.out.cellAt _ (by omega), List.getElem?_eq_getElem (by rw [cellsV_len, hm.out.1]; omega)]; rfl) (fun j hj => ho.out.frozenAt _)
        obtain ⟨xs', hx1, hx2⟩ := own_setCells (Builtin.zeroCells zeroV.cells (j1 - i1)).toList (i1 * 3) _ _ ho.out
        have HX := Lib.hid (own_cut hx1 (m := i1) (by omega))
        have HX2 := Lib.hid hx2
        have HBW := Lib.hid (below_setCells hg (Builtin.zeroCells zeroV.cells (j1 - i1)).toList (i1 * 3) _ _ hb.out)
        generalize wr.setCells g (i1 * 3) (Builtin.zeroCells zeroV.cells (j1 - i1)).toList = W at *
        clear hx1 hx2
        go_wp2_with fail
        go_ret
        refine ⟨i1, cap, rfl, ?_, HBW.out⟩
        have h := HX.out
        rw [HX2.out, cellsV_take, hm.out.2.1, List.take_of_length_le (by rw [HN.out]; omega)] at h
        exact h
end Go.Proofs.Ytlmfdmaoakckgaa

/- Joined texts: Ints, GlPut, TxL. Each has its own head line. No condition beyond those that its theorems state. -/
import Derived.Deep.RegionLaw
import Derived.Test.YtmejoococajikaaGreatJ01
import Derived.Test.YtmejoococajikaaGreatJ04
import Derived.Test.YtmejoococajikaaGreatJ28
import Derived.Test.YtmejoococajikaaGreatJ31
import Derived.Test.YtmejoococajikaaGreatJ30
set_option linter.unusedVariables false

/- Rows of numbers of the call's own, all cells of which are numbers: bytes lie elsewhere. -/
namespace Go.Proofs.YtmejoococajikaaGreat
open Go.RowKit

/-- All cells of the row's block are numbers. -/
def Ints (w : World) (v : Value) : Prop := ∀ g, v.ownBlock = some g → ∃ cur e fz, w.heap[g]? = some (.cells cur e fz) ∧ ∀ u, u ∈ cur → ∃ x, u = .int .i64 x
theorem Ints.nil (w : World) (n c : Nat) : Ints w (.slice none n c) := fun g h => by cases h
theorem Ints.below {w w' : World} {v : Value} (h : Ints w v) (hb : Below w.heap.size w w') : Ints w' v := by
  intro g hg
  obtain ⟨cur, e, fz, h1, h2⟩ := h g hg
  exact ⟨cur, e, fz, (hb.block g (Array.getElem?_eq_some_iff.1 h1).1).trans h1, h2⟩
theorem Ints.drew {w : World} {v : Value} (h : Ints w v) : Ints w.drew v := h
theorem Ints.apart {w : World} {v : Value} (h : Ints w v) {A : Option Addr} {n : Nat} {l : List Int} (hr : Ri w .u8 A n l) (hn : 0 < n) {b o : Nat} (hA : A = some ⟨b, o, none⟩) : v.ownBlock ≠ some b := by
  intro hg
  obtain ⟨cur, e, fz, h1, h2⟩ := h b hg
  obtain ⟨b2, o2, hA2, _, hc⟩ := hr.all hn
  rw [hA] at hA2
  injection hA2 with hA2; injection hA2 with e1 e2
  subst e1 e2
  have h3 := hc 0 hn
  rw [cell_of_row w b _ cur e fz h1] at h3
  obtain ⟨x, hx⟩ := h2 _ (Array.mem_of_getElem? h3)
  cases hx
/-- Bytes stay when numbers are laid behind a row of the call's own. -/
theorem Ints.keep {w w' : World} {v : Value} (h : Ints w v) {A : Option Addr} {n : Nat} {l : List Int} (hr : Ri w .u8 A n l) (hg : w.grownBy w' v.ownBlock) : Ri w' .u8 A n l := by
  rcases Nat.eq_zero_or_pos n with h0 | h0
  · subst h0
    exact ⟨hr.1, fun h => absurd h (by omega)⟩
  · refine hr.grown hg (fun g b o h1 h2 => ?_)
    have := h.apart hr h0 h2
    intro h3
    exact this (by rw [h1, h3])
theorem Ints.alloc {w : World} {v : Value} (h : Ints w v) (o : Obj) : Ints (w.alloc o) v := h.below ((Below.refl _ _).alloc (Nat.le_refl _) _)
section
variable {P : Program} (w : World)
theorem run_append_ints (base : Nat) (t ty e : TypeId) (i : TypeInfo) (ht : P.underlying t = some (.slice e)) (hi : P.info? e = some i) (hz : i.zero = some (.int .i64 0))
    (hsize : i.size = 1) (hby : i.bytes = 8)
    (v : Value) (n : Nat) (l : List Int) (hown : w.ownsRow base e 1 v n (l.map (Value.int .i64))) (hI : Ints w v)
    (A : Option Addr) (m c : Nat) (l2 : List Int) (hr : Ri w .i64 A m l2)
    (hb : n + m ≤ 2000000000) (hbase : base ≤ w.heap.size) :
    ∃ G cap w', (Builtin.append_ #[t, t] ty #[v, .slice A m c]).run P w = .ok (.slice G (n + m) cap) w' ∧ w'.ownsRow base e 1 (.slice G (n + m) cap) (n + m) ((l ++ l2).map (Value.int .i64)) ∧ w.grownBy w' v.ownBlock ∧
      ((Value.slice G (n + m) cap).ownBlock = v.ownBlock ∨ (Value.slice G (n + m) cap).ownBlock = some w.heap.size) ∧ n + m ≤ cap ∧ Ints w' (.slice G (n + m) cap) := by
  obtain ⟨G, cap, w', hrun, h2, h3, h4, h5⟩ := run_append_any (P := P) w base t ty e i (.int .i64 0) 1 8 ht hi hz hsize hby rfl (by decide) v n _ hown A m c _ hr (Ri.oneCell _ _) (by unfold maxLen; omega) (by omega) hbase
  refine ⟨G, cap, w', hrun, by rw [List.map_append]; exact h2, h3, h4, h5, ?_⟩
  have hnum : ∀ q : List Int, ∀ u, u ∈ q.map (Value.int .i64) → ∃ x, u = .int .i64 x := by
    intro q u hu
    obtain ⟨x, _, rfl⟩ := List.mem_map.1 hu
    exact ⟨x, rfl⟩
  have hzero : ∀ k u, u ∈ Builtin.zeroCells (Value.int .i64 0).cells k → ∃ x, u = .int .i64 x := by
    intro k u hu
    simp [Builtin.zeroCells, Value.cells, Nat.mod_one] at hu
    exact ⟨0, hu.2.symm⟩
  rcases A with _ | ad
  · have hm : m = 0 := by
      rcases Nat.eq_zero_or_pos m with h0 | h0
      · exact h0
      · obtain ⟨b, o, h, _⟩ := hr.2 h0
        cases h
    subst hm
    have h6 := run_append_of_nil w base t ty e i 1 ht hi v n _ hown c
    rw [h6] at hrun
    injection hrun with e1 e2
    rw [← e1, ← e2]
    exact hI
  · have hl2 : (l2.map (Value.int .i64)).length = m * i.size := by rw [hsize]; simpa using hr.len
    have hcells : ∀ j u, (l2.map (Value.int .i64))[j]? = some u → w.cell? (ad.add j) = some u := by
      intro j u hu
      rcases Nat.eq_zero_or_pos m with h0 | h0
      · subst h0
        have hn : l2 = [] := List.eq_nil_of_length_eq_zero hr.len
        subst hn
        simp at hu
      · obtain ⟨b, o, h, _, hc⟩ := hr.2 h0
        injection h with h
        subst h
        rw [add_none]
        exact hc j u hu
    rcases hown.2 with ⟨rfl, rfl⟩ | ⟨g, cap0, cur, rfl, hbg, hg, hnc, hcm, hcs, htake⟩
    · by_cases hm : m = 0
      · subst hm
        have hn : l2 = [] := List.eq_nil_of_length_eq_zero hr.len
        subst hn
        have h6 : (Builtin.append_ #[t, t] ty #[.slice none 0 0, .slice (some ad) 0 c]).run P w = .ok (.slice none 0 0) w := by
          simp [Builtin.append_, run_underlying ht, sizeOf, typeInfo, hi, Builtin.lenOf, Builtin.firstCells, loadCells, loadCellsFrom]
        rw [h6] at hrun
        injection hrun with e1 e2
        rw [← e1]
        exact Ints.nil _ _ _
      · have h6 := run_append_nil (P := P) w t ty e i (.int .i64 0) ht hi hz ad m c _ hl2 hcells (by omega) (by omega) (by rw [hby]; omega)
        rw [h6] at hrun
        injection hrun with e1 e2
        rw [← e1, ← e2]
        intro g hg
        injection hg with hg
        dsimp only at hg
        subst hg
        refine ⟨_, _, _, heap_alloc_new w.drew _, fun u hu => ?_⟩
        rcases Array.mem_append.1 hu with hu | hu
        · exact hnum _ _ (by simpa using hu)
        · exact hzero _ _ hu
    · obtain ⟨cur2, e2, fz2, h6, hcur⟩ := hI g rfl
      rw [hg] at h6
      injection h6 with h6
      injection h6 with h6a h6b h6c
      subst h6a
      have hown1 := hown.1
      by_cases hroom : n + m ≤ cap0
      · have hfit : n * i.size + (l2.map (Value.int .i64)).length ≤ cur.size := by rw [hl2, hcs, hsize]; omega
        have h6 := run_append_room (P := P) w t ty e i ht hi g n cap0 cur hg ad m c _ hl2 hcells (Ri.oneCell _ _) hroom hfit
        rw [h6] at hrun
        injection hrun with e1 e2
        rw [← e1, ← e2]
        intro g2 hg2
        injection hg2 with hg2
        dsimp only at hg2
        subst hg2
        refine ⟨_, _, _, setRow_heap w g cur _ e _ hg, fun u hu => ?_⟩
        simp only [List.mem_toArray, List.mem_append] at hu
        rcases hu with (hu | hu) | hu
        · exact hcur u (by simpa using List.mem_of_mem_take hu)
        · exact hnum _ _ hu
        · exact hcur u (by simpa using List.mem_of_mem_drop hu)
      · have holds : ∀ j u, (l.map (Value.int .i64))[j]? = some u → w.cell? ((⟨g, 0, none⟩ : Addr).add j) = some u := hown.cells (g := g) rfl
        have h6 := run_append_grow (P := P) w t ty e i (.int .i64 0) ht hi hz ⟨g, 0, none⟩ n cap0 _ (by rw [hsize]; exact hown1) holds ad m c _ hl2 hcells (by omega) (by omega) (growslice_fits (by omega) (by rw [hby]; omega))
        rw [h6] at hrun
        injection hrun with e1 e2
        rw [← e1, ← e2]
        intro g2 hg2
        injection hg2 with hg2
        dsimp only at hg2
        subst hg2
        refine ⟨_, _, _, heap_alloc_new w.drew _, fun u hu => ?_⟩
        rcases Array.mem_append.1 hu with hu | hu
        · rcases Array.mem_append.1 hu with hu | hu
          · exact hnum _ _ (by simpa using hu)
          · exact hnum _ _ (by simpa using hu)
        · exact hzero _ _ hu
theorem wp_append_ints {o : Oper} {a : Act} {K : Act → World → Prop} {Q : Exit → Act → World → Prop} (s x : Operand) (t : TypeId)
    (ho : o.op = .call { callee := .builtin .append, args := #[s, x], argTypes := #[t, t] })
    (base : Nat) (e : TypeId) (i : TypeInfo) (ht : P.underlying t = some (.slice e)) (hi : P.info? e = some i) (hz : i.zero = some (.int .i64 0))
    (hsize : i.size = 1) (hby : i.bytes = 8)
    (v : Value) (n : Nat) (l : List Int) (hs : a.eval s = v) (hown : w.ownsRow base e 1 v n (l.map (Value.int .i64))) (hI : Ints w v)
    (A : Option Addr) (m c : Nat) (l2 : List Int) (hx : a.eval x = .slice A m c) (hr : Ri w .i64 A m l2)
    (hb : n + m ≤ 2000000000) (hbase : base ≤ w.heap.size)
    (h : ∀ G cap w', w'.ownsRow base e 1 (.slice G (n + m) cap) (n + m) ((l ++ l2).map (Value.int .i64)) → w.grownBy w' v.ownBlock → Ints w' (.slice G (n + m) cap) → K (a.put o.dst (.slice G (n + m) cap)) w') : o.wp P a w K Q := by
  obtain ⟨G, cap, w', hrun, h2, h3, _, _, h5⟩ := run_append_ints (P := P) w base t o.type e i ht hi hz hsize hby v n l hown hI A m c l2 hr hb hbase
  unfold Oper.wp execOp
  simp only [ho, resolve, invoke, builtin, Sem.run_bind, Sem.run_pure, Result.andThen_ok, List.map_toArray, List.map_cons, List.map_nil, hs, hx, hrun]
  exact h G cap w' h2 h3 h5
end
theorem step_ints {w : World} {ops : Array Oper} {o : Oper} {a : Act} {K : Act → World → Prop} {Q : Exit → Act → World → Prop} {E : Prop} (hgd : o.guard = none) (s x : Operand)
    (ho : o.op = .call { callee := .builtin .append, args := #[s, x], argTypes := #[46, 46] })
    (base : Nat) (v : Value) (n : Nat) (l : List Int) (hs : a.eval s = v) (hown : w.ownsRow base 3 1 v n (l.map (Value.int .i64))) (hI : Ints w v)
    (A : Option Addr) (m c : Nat) (l2 : List Int) (hx : a.eval x = .slice A m c) (hr : Ri w .i64 A m l2) (hb : n + m ≤ 2000000000) (hbase : base ≤ w.heap.size)
    (h : ∀ G cap w', w'.ownsRow base 3 1 (.slice G (n + m) cap) (n + m) ((l ++ l2).map (Value.int .i64)) → w.grownBy w' v.ownBlock → Ints w' (.slice G (n + m) cap) → K (a.put o.dst (.slice G (n + m) cap)) w') :
    if Region.wanted o (yielded ops a.tmps) = true then Oper.wp Tryz.prog o a w K Q else E := by
  have hw : Region.wanted o (yielded ops a.tmps) = true := by simp [Region.wanted, hgd]
  rw [if_pos hw]
  obtain ⟨i0, hi, hz0, hz1, hz2⟩ := info_parts info_int
  exact wp_append_ints w s x 46 ho base 3 i0 Tryz.underlying46 hi hz0 hz1 hz2 v n l hs hown hI A m c l2 hx hr hb hbase h
theorem wpList_ints (w : World) {ops : Array Oper} {rest : List Oper} {o : Oper} {a : Act} {Q : Exit → Act → World → Prop} (hgd : o.guard = none) (s x : Operand)
    (ho : o.op = .call { callee := .builtin .append, args := #[s, x], argTypes := #[46, 46] })
    (base : Nat) (v : Value) (n : Nat) (l : List Int) (hs : a.eval s = v) (hown : w.ownsRow base 3 1 v n (l.map (Value.int .i64))) (hI : Ints w v)
    (A : Option Addr) (m c : Nat) (l2 : List Int) (hx : a.eval x = .slice A m c) (hr : Ri w .i64 A m l2) (hb : n + m ≤ 2000000000) (hbase : base ≤ w.heap.size)
    (h : ∀ G cap w', w'.ownsRow base 3 1 (.slice G (n + m) cap) (n + m) ((l ++ l2).map (Value.int .i64)) → w.grownBy w' v.ownBlock → Ints w' (.slice G (n + m) cap) → wpList Tryz.prog ops Q rest (a.put o.dst (.slice G (n + m) cap)) w') : wpList Tryz.prog ops Q (o :: rest) a w := by
  obtain ⟨i0, hi, hz0, hz1, hz2⟩ := info_parts info_int
  exact wpList_plain hgd fun _ hK => wp_append_ints w s x 46 ho base 3 i0 Tryz.underlying46 hi hz0 hz1 hz2 v n l hs hown hI A m c l2 hx hr hb hbase fun G cap w' h2 h3 h5 => hK _ _ (h G cap w' h2 h3 h5)
/-- append onto a row of bytes of the call's own, in a region that draws its order. -/
theorem step_u8o {w : World} {ops : Array Oper} {o : Oper} {a : Act} {K : Act → World → Prop} {Q : Exit → Act → World → Prop} {E : Prop} (hgd : o.guard = none) (s x : Operand)
    (ho : o.op = .call { callee := .builtin .append, args := #[s, x], argTypes := #[38, 38] })
    (base : Nat) (v : Value) (n : Nat) (l : List Int) (hs : a.eval s = v) (hown : w.ownsRow base 5 1 v n (l.map (Value.int .u8)))
    (A : Option Addr) (m c : Nat) (l2 : List Int) (hx : a.eval x = .slice A m c) (hr : Ri w .u8 A m l2) (hb : n + m ≤ 2000000000) (hbase : base ≤ w.heap.size)
    (h : ∀ G cap w', w'.ownsRow base 5 1 (.slice G (n + m) cap) (n + m) ((l ++ l2).map (Value.int .u8)) → w.grownBy w' v.ownBlock → ((Value.slice G (n + m) cap).ownBlock = v.ownBlock ∨ (Value.slice G (n + m) cap).ownBlock = some w.heap.size) → K (a.put o.dst (.slice G (n + m) cap)) w') :
    if Region.wanted o (yielded ops a.tmps) = true then Oper.wp Tryz.prog o a w K Q else E := by
  have hw : Region.wanted o (yielded ops a.tmps) = true := by simp [Region.wanted, hgd]
  rw [if_pos hw]
  obtain ⟨i0, hi, hz0, hz1, hz2⟩ := info_parts info_u8
  refine wp_append_any w s x 38 ho base 5 i0 (.int .u8 0) 1 1 Tryz.underlying38 hi hz0 hz1 hz2 rfl (by decide) v n _ hs hown A m c _ hx hr (Ri.oneCell _ _) (by unfold maxLen; omega) (by omega) hbase ?_
  intro G cap w' h1 h2 h3 _
  rw [← List.map_append] at h1
  exact h G cap w' h1 h2 h3
end Go.Proofs.YtmejoococajikaaGreat

/- rle.Put. -/
namespace Go.Proofs.YtmejoococajikaaGreat
open Go.RowKit

/-- Bytes of the call's own and an error's number are handed back. -/
def BytesOwn (w : World) (l : List Int) (er : Int) (e : Ending) (w' : World) : Prop :=
  ∃ G n c, e = .returned (.tuple #[.slice G n c, .int .i64 er]) ∧ w'.ownsRow w.heap.size 5 1 (.slice G n c) n (l.map (Value.int .u8)) ∧ Below w.heap.size w w'
theorem own_nilB (w : World) (B : Nat) (e : TypeId) (size : Nat) : w.ownsRow B e size (.slice none 0 0) 0 ([].map (Value.int .u8)) := ⟨by simp, .inl ⟨rfl, rfl⟩⟩
theorem BytesOwn.err {w : World} {l : List Int} {er : Int} {e : Ending} {w' : World} (h : BytesOwn w l er e w') : BytesErr w l er e w' := by
  obtain ⟨G, n, c, h1, h2, h3⟩ := h
  exact ⟨G, n, c, h1, Sl.of_own h2, h3⟩
def lenS : Value → Nat
  | .slice _ n _ => n
  | _ => 0
/-- The state while numbers are laid down in runs. -/
def PutGW (w wr : World) (N : Nat) (s : Bool) (res : List Int × Int) (lv v : Value) : Prop :=
  ∃ A m c l o f, lv = .slice A m c ∧ Ri w .i64 A m l ∧ I64 l ∧ m ≤ c ∧ c ≤ 9223372036854775807 ∧ m ≤ N ∧ wr.ownsRow w.heap.size 5 1 v o.length (o.map (Value.int .u8)) ∧ Below w.heap.size w wr ∧ putF s f o l = res ∧ m < f ∧ o.length + 10 * m ≤ 10 * N
theorem I64.take {l : List Int} (h : I64 l) (k : Nat) : I64 (l.take k) := fun y hy => h y (List.mem_of_mem_take hy)
theorem I64.drop {l : List Int} (h : I64 l) (k : Nat) : I64 (l.drop k) := fun y hy => h y (List.mem_of_mem_drop hy)

set_option maxRecDepth 100000 in
set_option maxHeartbeats 2000000 in
theorem PutGl_own (w : World) (A : Option Addr) (n cap : Nat) (l : List Int) (hr : Ri w .i64 A n l) (hu : I64 l) (hc : n ≤ cap) (hm : cap ≤ 9223372036854775807) (hn : n ≤ 1000000) (s : Bool) (r : List Int) (er : Int) (hp : putGl l s = (r, er)) :
    Calls Tryz.prog 21 #[.slice A n cap, .bool s] w (BytesOwn w r er) := by
  have HR := Lib.hid hr; have HU := Lib.hid hu; have HN := Lib.hid hr.len
  clear hr hu
  unfold putGl at hp
  rw [HN.out] at hp
  by_cases hbig : 4096 < n
  · rw [if_pos hbig] at hp
    injection hp with e1 e2
    subst e1 e2
    go_enter Tryz.func21, Tryz.ntmps21
    go_wp2_with fail
    go_ret2
    exact ⟨none, 0, 0, rfl, own_nilB _ _ _ _, Below.refl _ _⟩
  · rw [if_neg hbig] at hp
    have HP := Lib.hid hp
    clear hp
    go_enter Tryz.func21, Tryz.ntmps21
    go_wp2_with fail
    go_loopw [0, 6] (fun b v wr => Hid (PutGW w wr n s (r, er) b v)) (fun b _ _ => lenS b)
    case atStart => exact ⟨A, n, cap, l, [], n + 1, rfl, HR.out, HU.out, hc, hm, Nat.le_refl _, World.ownsRow_nil _ _ _ _, Below.refl _ _, HP.out, Nat.lt_succ_self _, by simp⟩
    case round =>
      obtain ⟨A1, n1, c1, l1, o, f, rfl, hr1, hu1, hc1, hcm1, hn1, ho, hb, hd, hf, hol⟩ := hrel.out
      obtain ⟨G, gc, rfl⟩ := own_form ho
      have hgc := own_cap ho
      have HR1 := Lib.hid hr1; have HU1 := Lib.hid hu1; have HO := Lib.hid ho; have HB := Lib.hid hb; have HL1 := Lib.hid hr1.len
      obtain ⟨f, rfl⟩ : ∃ g, f = g + 1 := ⟨f - 1, by omega⟩
      simp only [putF] at hd
      rw [HL1.out] at hd
      clear hrel hr1 hu1 ho hb
      by_cases h0 : n1 = 0
      · subst h0
        rw [if_pos rfl] at hd
        injection hd with e1 e2
        subst e1 e2
        go_wp2_with fail
        go_ret2
        exact ⟨_, _, _, rfl, HO.out, HB.out⟩
      · rw [if_neg h0] at hd
        obtain ⟨b, of, hA, hbl, _⟩ := HR1.out.all (by omega)
        subst hA
        have HCALL := Lib.hid (Cut_any wr _ n1 c1 l1 (HR1.out.below HB.out) hc1 hcm1 (by omega))
        have hcr := cutL_range l1 (by rw [HL1.out]; omega)
        rw [HL1.out] at hcr
        obtain ⟨K, hK⟩ : ∃ K, K = cutL l1 := ⟨_, rfl⟩
        rw [← hK] at hd HCALL hcr
        have hrc := run_cases (l1.take K) s (HU1.out.take K)
        rw [List.length_take, HL1.out, Nat.min_eq_left (by omega)] at hrc
        obtain ⟨q, e, hq⟩ : ∃ q e, runR (l1.take K) s = (q, e) := ⟨_, _, rfl⟩
        have HQ := Lib.hid hq
        rw [hq] at hd hrc
        clear hq hK
        go_wp2_with fail
        refine HCALL.out.mono ?_; rintro e1 w1 ⟨rfl, hb1⟩
        have HB1 := Lib.hid (on HB.out hb1)
        have HO1 := Lib.hid (own_below HO.out hb1)
        clear hb1
        go_wp2_with fail
        refine (Run_any _ _ K c1 (l1.take K) ((HR1.out.first (by omega)).below HB1.out) (HU1.out.take K) (by omega) hcm1 (by omega) s q e HQ.out).mono ?_; rintro e1 w2 ⟨G2, n2, c2, rfl, hs2, hb2⟩
        have HB2 := Lib.hid (on HB1.out hb2)
        have HO2 := Lib.hid (own_below HO1.out hb2)
        have HS2 := Lib.hid hs2
        have hn2 := hs2.1.len
        have hz2 := HB2.out.size
        clear hb2 hs2
        rcases hrc with h | ⟨q', h, hql⟩
        · injection h with h1 h2
          subst h1 h2
          rw [if_pos (by decide)] at hd
          injection hd with e1 e2
          subst e1 e2
          go_wp2_with fail
          go_ret2
          exact ⟨none, 0, 0, rfl, own_nilB _ _ _ _, HB2.out⟩
        · injection h with h1 h2
          subst h1 h2
          rw [if_neg (by simp)] at hd
          have HD := Lib.hid hd
          clear hd
          go_upto_region 9 with fail
          go_region_law (first
            | (refine step_u8o rfl (.tmp 29) (.tmp 30) rfl w.heap.size _ o.length o (by kernel_rfl) (by first | exact HO2.out.drew | exact HO2.out) _ n2 c2 q (by kernel_rfl) (by first | exact HS2.out.1.drew | exact HS2.out.1) (by omega) (by simp; omega) ?_; intro G3 c3 w3 hown hgr hat; have HOWN := Lib.hid hown; have HB3 := Lib.hid (below_of_grown (by first | exact HB2.out.drew | exact HB2.out) hgr (by simp; omega) (fun k hk => (HO2.out.lt k hk).1)); clear hown hgr hat))
          all_goals
            go_wp2_with fail
          all_goals
            refine ⟨⟨_, _, _, _, Lib.hid ⟨_, _, _, l1.drop K, o ++ q, f, rfl, ?_, HU1.out.drop K, by omega, by omega, by omega, ?_, HB3.out, HD.out, by omega, ?_⟩, rfl, rfl, rfl, rfl⟩, ?_⟩
            · first
                | exact HR1.out.rest (by omega) (fun _ => rfl)
                | exact (HR1.out.rest (i := K) (by omega) (fun _ => rfl)).zero (by omega) _
            · rw [List.length_append, hn2]
              exact HOWN.out
            · rw [List.length_append, hn2]
              omega
            · show n1 - K < n1
              omega
theorem PutGl_any (w : World) (A : Option Addr) (n cap : Nat) (l : List Int) (hr : Ri w .i64 A n l) (hu : I64 l) (hc : n ≤ cap) (hm : cap ≤ 9223372036854775807) (hn : n ≤ 1000000) (s : Bool) (r : List Int) (er : Int) (hp : putGl l s = (r, er)) :
    Calls Tryz.prog 21 #[.slice A n cap, .bool s] w (BytesErr w r er) :=
  (PutGl_own w A n cap l hr hu hc hm hn s r er hp).mono fun _ _ h => h.err
end Go.Proofs.YtmejoococajikaaGreat

/- Texts: how many bytes each has, laid down (lengths); rows that lie apart. -/
namespace Go.Proofs.YtmejoococajikaaGreat
open Go.RowKit

theorem lensT_i64 {l : List ByteArray} (h : ∀ s ∈ l, s.size ≤ 1000000) : I64 (lensT l) := fun x hx => by
  obtain ⟨s, hs, rfl⟩ := List.mem_map.1 hx
  have := h s hs
  omega
theorem lensT_len (l : List ByteArray) : (lensT l).length = l.length := by unfold lensT; rw [List.length_map]
theorem lensT_step {l : List ByteArray} {j : Nat} (hj : j < l.length) : (lensT l).take (j + 1) = (lensT l).take j ++ [(l[j].size : Int)] := by
  rw [List.take_succ_eq_append_getElem (by rw [lensT_len]; exact hj)]
  simp [lensT]
set_option maxRecDepth 100000 in
set_option maxHeartbeats 2000000 in
theorem lengths_any (w : World) (A : Option Addr) (n c : Nat) (l : List ByteArray) (hr : Rs w A n l) (hn : n ≤ 100000) (hs : ∀ s ∈ l, s.size ≤ 1000000) (r : List Int) (er : Int) (hp : putGl (lensT l) false = (r, er)) :
    Calls Tryz.prog 20 #[.slice A n c] w (BytesOut w r) := by
  have HL := Lib.hid hr.len
  have HALL := Lib.hid (fun h0 => hr.all h0)
  have HP := Lib.hid hp
  have HI := Lib.hid (lensT_i64 hs)
  have HS := Lib.hid hs
  have HO : Hid (w.ownsRow w.heap.size 3 1 (.slice none 0 0) 0 (((lensT l).take 0).map (Value.int .i64))) := Lib.hid ⟨by simp, .inl ⟨rfl, rfl⟩⟩
  clear hr hp hs
  go_enter Tryz.func20, Tryz.ntmps20
  go_wp2_with fail
  go_loopg [3, 10] n (fun gg v3 v wr => ∃ j : Nat, v = .int .i64 j ∧ j ≤ n ∧ n - j ≤ gg ∧ Hid (wr.ownsRow w.heap.size 3 1 v3 j (((lensT l).take j).map (Value.int .i64))) ∧ Hid (Below w.heap.size w wr))
  case atStart => exact ⟨0, rfl, by omega, by omega, HO, Lib.hid (Below.refl _ _)⟩
  case round =>
    obtain ⟨j, rfl, hjN, hgg, ho, hb⟩ := hrel
    obtain ⟨G, cG, hG⟩ := own_form ho.out
    subst hG
    have hz := hb.out.size
    by_cases hlt : j < n
    · have t1 : decide (j < n) = true := decide_eq_true hlt
      obtain ⟨b, o, rfl, hbb, hc⟩ := HALL.out (by omega)
      have hj : j < l.length := by rw [HL.out]; exact hlt
      have k1 := (hb.out.cell (p := ⟨b, o + j, none⟩) hbb).trans (hc j hj)
      have HST := Lib.hid (lensT_step hj)
      have hxs := HS.out _ (List.getElem_mem hj)
      generalize l[j] = x at k1 HST hxs
      have HOB := Lib.hid (Rd.one wr (.int .i64 (x.size : Int)) 3)
      have HO2 := Lib.hid (own_below ho.out ((Below.refl wr.heap.size wr).alloc (Nat.le_refl _) (.cells #[.int .i64 (x.size : Int)] 3)))
      clear hc
      go_wp2_with (at_builtin; refine wpList_i64 _ rfl _ _ rfl w.heap.size _ j _ rfl HO2.out _ 1 1 [(x.size : Int)] rfl HOB.out (by omega) (by simp; omega) ?_; intro G2 c3 w3 ho3 hg3 _)
      have HB3 := Lib.hid (push_ hb.out (Nat.le_refl _) ho.out hg3)
      rw [← HST.out] at ho3
      have HO3 := Lib.hid ho3
      clear ho3 hg3
      go_wp2_with fail
      go_roundg (n - (j + 1))
      case measure => omega
      case rel => exact ⟨j + 1, by go_num, by omega, by omega, HO3, HB3⟩
    · have t1 : decide (j < n) = false := decide_eq_false hlt
      obtain rfl : j = n := by omega
      have hcap := own_cap ho.out
      have hT : (lensT l).take j = lensT l := List.take_of_length_le (by rw [lensT_len, HL.out]; omega)
      have hri := Ri.of_own ho.out
      rw [hT] at hri
      have HRI := Lib.hid hri
      clear hT hri
      go_wp2_with fail
      refine (PutGl_any wr G j cG (lensT l) HRI.out HI.out hcap.1 hcap.2 (by omega) false r er HP.out).mono ?_; rintro e w4 ⟨G4, n4, c4, rfl, hr4, hb4⟩
      have HR4 := Lib.hid hr4
      have HB4 := Lib.hid (on hb.out hb4)
      clear hr4 hb4
      go_wp2_with fail
      go_ret
      exact ⟨_, _, _, rfl, HR4.out, HB4.out⟩
theorem strCells_bytes (s : ByteArray) : Lib.strCells s = (bytesT s).map (Value.int .u8) := by
  unfold Lib.strCells bytesT
  rw [List.map_map]
  rfl
theorem catT_step {l : List ByteArray} {j : Nat} (hj : j < l.length) : catT (l.take (j + 1)) = catT (l.take j) ++ bytesT l[j] := by
  unfold catT
  rw [List.take_succ_eq_append_getElem hj, List.flatMap_append]
  simp
theorem own_lowerT {w : World} {b b' : Nat} {e : TypeId} {s n : Nat} {v : Value} {xs : List Value} (h : w.ownsRow b e s v n xs) (hb : b' ≤ b) : w.ownsRow b' e s v n xs := by
  refine ⟨h.1, ?_⟩
  rcases h.2 with hn | ⟨g, cap, cur, hv, hbg, rest⟩
  · exact .inl hn
  · exact .inr ⟨g, cap, cur, hv, Nat.le_trans hb hbg, rest⟩
/-- Two rows of the call's own, of other elements, lie apart. -/
theorem own_apartT {w : World} {b b' : Nat} {e e' : TypeId} {s s' n m : Nat} {v u : Value} {xs ys : List Value} (h1 : w.ownsRow b e s v n xs) (h2 : w.ownsRow b' e' s' u m ys) (hne : e ≠ e') : v.ownBlock = none ∨ v.ownBlock ≠ u.ownBlock := by
  rcases h1.2 with ⟨rfl, _⟩ | ⟨g, cap, cur, rfl, _, hg, _⟩
  · exact .inl rfl
  · rcases h2.2 with ⟨rfl, _⟩ | ⟨g', cap', cur', rfl, _, hg', _⟩
    · exact .inr (by simp [Value.ownBlock])
    · refine .inr fun e0 => ?_
      have : g = g' := by simpa [Value.ownBlock] using e0
      subst this
      rw [hg] at hg'
      injection hg' with hg'
      injection hg' with _ hg'
      exact hne hg'
theorem own_twoT {w w' : World} {b b' : Nat} {e e' : TypeId} {s s' n m : Nat} {v u : Value} {xs ys : List Value} {o : Obj} (h1 : w.ownsRow b e s v n xs) (h2 : w.ownsRow b' e' s' u m ys) (hne : e ≠ e') (hg : (w.alloc o).grownBy w' u.ownBlock) : w'.ownsRow b e s v n xs :=
  (h1.alloc o).kept hg (own_apartT h1 h2 hne)
theorem own_twoZ {w w' : World} {b b' : Nat} {e e' : TypeId} {s s' n m : Nat} {v u : Value} {xs ys : List Value} (h1 : w.ownsRow b e s v n xs) (h2 : w.ownsRow b' e' s' u m ys) (hne : e ≠ e') (hg : w.grownBy w' u.ownBlock) : w'.ownsRow b e s v n xs :=
  h1.kept hg (own_apartT h1 h2 hne)
end Go.Proofs.YtmejoococajikaaGreat

/- Joined texts: Map8. Each has its own head line. No condition beyond those that its theorems state. -/
import Derived.Handy
import Derived.Test.YtmejoococajikaaGreatJ07
import Derived.Test.YtmejoococajikaaGreatJ06
import Derived.Test.YtmejoococajikaaGreatJ08
import Derived.Test.YtmejoococajikaaGreatJ02
set_option linter.unusedVariables false

/- direct.Plain and direct.Made. -/
namespace Go.Proofs.YtmejoococajikaaGreat
open Go.RowKit

theorem info_i64 : (Tryz.prog.info? 3).map (fun i => (i.zero, i.size, i.bytes)) = some (some (.int .i64 0), 1, 8) := by kernel_rfl
/-- append onto a row of the call's own, elements of kind i64, whatever is appended. -/
theorem wpList_i64 (w : World) {ops : Array Oper} {rest : List Oper} {o : Oper} {a : Act} {Q : Exit → Act → World → Prop} (hgd : o.guard = none) (s x : Operand)
    (ho : o.op = .call { callee := .builtin .append, args := #[s, x], argTypes := #[46, 46] })
    (base : Nat) (v : Value) (n : Nat) (l : List Int) (hs : a.eval s = v) (hown : w.ownsRow base 3 1 v n (l.map (Value.int .i64)))
    (A : Option Addr) (m c : Nat) (l2 : List Int) (hx : a.eval x = .slice A m c) (hr : Ri w .i64 A m l2) (hb : n + m ≤ 2000000000) (hbase : base ≤ w.heap.size)
    (h : ∀ G cap w', w'.ownsRow base 3 1 (.slice G (n + m) cap) (n + m) ((l ++ l2).map (Value.int .i64)) → w.grownBy w' v.ownBlock → n + m ≤ cap → wpList Tryz.prog ops Q rest (a.put o.dst (.slice G (n + m) cap)) w') : wpList Tryz.prog ops Q (o :: rest) a w := by
  obtain ⟨i0, hi, hz0, hz1, hz2⟩ := info_parts info_i64
  refine wpList_append_any w hgd s x 46 ho base 3 i0 (.int .i64 0) 1 8 Tryz.underlying46 hi hz0 hz1 hz2 rfl (by decide) v n _ hs hown A m c _ hx hr (Ri.oneCell _ _) (by unfold maxLen; omega) (by omega) hbase ?_
  intro G cap w' h1 h2 _ h4
  rw [← List.map_append] at h1
  exact h G cap w' h1 h2 h4

/-- Each is turned by f, or all are refused. -/
def mapOk (f : Int → Int) (ok : Int → Bool) (er : Int) (l : List Int) : List Int × Int := if l.all ok then (l.map f, 0) else ([], er)
theorem mapOk_bad {f : Int → Int} {ok : Int → Bool} {er : Int} {l : List Int} {j : Nat} (hj : j < l.length) (h : ok (l.getD j 0) = false) : mapOk f ok er l = ([], er) := by
  unfold mapOk
  rw [if_neg]
  intro h2
  have := List.all_eq_true.1 h2 _ (getD_mem l j hj)
  rw [h] at this; cases this
theorem mapOk_good {f : Int → Int} {ok : Int → Bool} {er : Int} {l : List Int} {j : Nat} (hj : l.length ≤ j) (h : (l.take j).all ok = true) : mapOk f ok er l = ((l.take j).map f, 0) := by
  unfold mapOk
  rw [List.take_of_length_le hj] at h ⊢
  rw [if_pos h]
theorem all_snoc {ok : Int → Bool} {l : List Int} {j : Nat} (hj : j < l.length) (h : (l.take j).all ok = true) (h2 : ok (l.getD j 0) = true) : (l.take (j + 1)).all ok = true := by
  rw [take_snoc l j hj, List.all_append, h]; simpa using h2
theorem map_snoc {f : Int → Int} {l : List Int} {j : Nat} (hj : j < l.length) : (l.take (j + 1)).map f = (l.take j).map f ++ [f (l.getD j 0)] := by
  rw [take_snoc l j hj, List.map_append, List.map_singleton]
def RowErr (k : IntKind) (w : World) (l : List Int) (er : Int) (e : Ending) (w' : World) : Prop :=
  ∃ G n c, e = .returned (.tuple #[.slice G n c, .int .i64 er]) ∧ Sl w' k G n c l ∧ Below w.heap.size w w'
def plainL (l : List Int) (s : Bool) : List Int × Int := if s then mapOk zig (fun _ => true) 1 l else mapOk id (fun x => decide (0 ≤ x)) 1 l
def madeL (l : List Int) (s : Bool) : List Int × Int := if s then mapOk zag (fun _ => true) 2 l else mapOk id (fun x => decide (x < 9223372036854775808)) 2 l
theorem getD_i64 {l : List Int} (h : I64 l) (i : Nat) : -9223372036854775808 ≤ l.getD i 0 ∧ l.getD i 0 < 9223372036854775808 := by
  rcases Nat.lt_or_ge i l.length with h1 | h1
  · exact h _ (by simp [List.getD, List.getElem?_eq_getElem h1])
  · simp [List.getD, List.getElem?_eq_none h1]
theorem getD_u64' {l : List Int} (h : U64 l) (i : Nat) : 0 ≤ l.getD i 0 ∧ l.getD i 0 < 18446744073709551616 := by
  rcases Nat.lt_or_ge i l.length with h1 | h1
  · exact h _ (by simp [List.getD, List.getElem?_eq_getElem h1])
  · simp [List.getD, List.getElem?_eq_none h1]
theorem own_nil (w : World) (B : Nat) (e : TypeId) (size : Nat) : w.ownsRow B e size (.slice none 0 0) 0 [] := ⟨by simp, .inl ⟨rfl, rfl⟩⟩

set_option maxRecDepth 100000 in
set_option maxHeartbeats 1000000 in
theorem Plain_any (w : World) (A : Option Addr) (n cap : Nat) (l : List Int) (hr : Ri w .i64 A n l) (hu : I64 l) (hn : n ≤ 1000000) (s : Bool) (r : List Int) (er : Int) (hl : plainL l s = (r, er)) :
    Calls Tryz.prog 117 #[.slice A n cap, .bool s] w (RowErr .u64 w r er) := by
  have HR := Lib.hid hr; have HU := Lib.hid hu; have HN := Lib.hid hr.len
  clear hr hu
  unfold plainL at hl
  cases s
  · rw [if_neg (by simp)] at hl
    have HL := Lib.hid hl; clear hl
    go_enter Tryz.func117, Tryz.ntmps117
    go_wp2_with fail
    have H0 := Lib.hid (own_empty w 109 1)
    go_loopw [6, 12] (fun v i wr => ∃ j : Nat, j ≤ n ∧ i = .int .i64 j ∧ Hid ((l.take j).all (fun x => decide (0 ≤ x)) = true) ∧ Hid (wr.ownsRow w.heap.size 109 1 v j (((l.take j).map id).map (Value.int .u64))) ∧ Hid (Below w.heap.size w wr)) (fun _ i _ => n - (intOf i).toNat)
    case atStart => exact ⟨0, by omega, rfl, rfl, own_nil _ _ _ _, Below.refl _ _⟩
    case round =>
      obtain ⟨j, hj, rfl, hok, ho, hb⟩ := hrel
      by_cases hlt : j < n
      · obtain ⟨b, o, hA, hbl, hcell⟩ := HR.out.at_ hlt
        subst hA
        have hc3 := (hb.out.cell (p := ⟨b, o + j, none⟩) hbl).trans hcell
        have hy := getD_i64 HU.out j
        clear hcell
        generalize hx : l.getD j 0 = x at hc3 hy
        have HX := Lib.hid hx; clear hx
        by_cases hbad : x < 0
        · go_wp2_with fail
          go_ret2
          have h := mapOk_bad (f := id) (er := 1) (ok := fun x => decide (0 ≤ x)) (j := j) (l := l) (by rw [HN.out]; exact hlt) (by rw [HX.out]; exact decide_eq_false (by omega))
          rw [HL.out] at h
          injection h with h1 h2
          subst h1 h2
          exact ⟨none, 0, 0, rfl, Sl.nil _ _, hb.out⟩
        · go_wp2_with (at_builtin; refine wpList_u64 _ rfl _ _ rfl w.heap.size _ j _ rfl (ho.out.alloc _) _ 1 1 [_] rfl (Rd.one _ _ _) (by omega) (by have := hb.out.size; simp; omega) ?_; intro G c w2 hown hgr hcc)
          have HOWN := Lib.hid hown; clear hown
          go_wp2_with fail
          go_roundw
          case rel =>
            refine ⟨j + 1, by omega, by go_num, all_snoc (by rw [HN.out]; exact hlt) hok.out (by rw [HX.out]; exact decide_eq_true (by omega)), ?_, push_ hb.out (Nat.le_refl _) ho.out hgr⟩
            have h := HOWN.out
            rw [map_snoc (by rw [HN.out]; exact hlt), HX.out]
            exact h
          case measure => simp [intOf] <;> omega
      · go_wp2_with fail
        obtain ⟨G, c, rfl⟩ := own_form ho.out
        go_ret2
        have h := HL.out
        rw [mapOk_good (j := j) (by rw [HN.out]; omega) hok.out] at h
        injection h with h1 h2
        subst h1 h2
        exact ⟨_, _, _, rfl, Sl.of_own ho.out, hb.out⟩
  · rw [if_pos rfl] at hl
    have HL := Lib.hid hl; clear hl
    go_enter Tryz.func117, Tryz.ntmps117
    go_wp2_with fail
    have H0 := Lib.hid (own_empty w 109 1)
    go_loopw [6, 12] (fun v i wr => ∃ j : Nat, j ≤ n ∧ i = .int .i64 j ∧ Hid ((l.take j).all (fun _ => true) = true) ∧ Hid (wr.ownsRow w.heap.size 109 1 v j (((l.take j).map zig).map (Value.int .u64))) ∧ Hid (Below w.heap.size w wr)) (fun _ i _ => n - (intOf i).toNat)
    case atStart => exact ⟨0, by omega, rfl, rfl, own_nil _ _ _ _, Below.refl _ _⟩
    case round =>
      obtain ⟨j, hj, rfl, hok, ho, hb⟩ := hrel
      by_cases hlt : j < n
      · obtain ⟨b, o, hA, hbl, hcell⟩ := HR.out.at_ hlt
        subst hA
        have hc3 := (hb.out.cell (p := ⟨b, o + j, none⟩) hbl).trans hcell
        have hy := getD_i64 HU.out j
        clear hcell
        generalize hx : l.getD j 0 = x at hc3 hy
        have HX := Lib.hid hx; clear hx
        · go_wp2_with fail
          refine (Zig_any _ _ hy.1 hy.2).mono ?_; rintro e w' ⟨rfl, rfl⟩
          go_wp2_with (at_builtin; refine wpList_u64 _ rfl _ _ rfl w.heap.size _ j _ rfl (ho.out.alloc _) _ 1 1 [_] rfl (Rd.one _ _ _) (by omega) (by have := hb.out.size; simp; omega) ?_; intro G c w2 hown hgr hcc)
          have HOWN := Lib.hid hown; clear hown
          go_wp2_with fail
          go_roundw
          case rel =>
            refine ⟨j + 1, by omega, by go_num, all_snoc (by rw [HN.out]; exact hlt) hok.out (by rfl), ?_, push_ hb.out (Nat.le_refl _) ho.out hgr⟩
            have h := HOWN.out
            rw [map_snoc (by rw [HN.out]; exact hlt), HX.out]
            exact h
          case measure => simp [intOf] <;> omega
      · go_wp2_with fail
        obtain ⟨G, c, rfl⟩ := own_form ho.out
        go_ret2
        have h := HL.out
        rw [mapOk_good (j := j) (by rw [HN.out]; omega) hok.out] at h
        injection h with h1 h2
        subst h1 h2
        exact ⟨_, _, _, rfl, Sl.of_own ho.out, hb.out⟩

set_option maxRecDepth 100000 in
set_option maxHeartbeats 1000000 in
theorem Made_any (w : World) (A : Option Addr) (n cap : Nat) (l : List Int) (hr : Ri w .u64 A n l) (hu : U64 l) (hn : n ≤ 1000000) (s : Bool) (r : List Int) (er : Int) (hl : madeL l s = (r, er)) :
    Calls Tryz.prog 163 #[.slice A n cap, .bool s] w (RowErr .i64 w r er) := by
  have HR := Lib.hid hr; have HU := Lib.hid hu; have HN := Lib.hid hr.len
  clear hr hu
  unfold madeL at hl
  cases s
  · rw [if_neg (by simp)] at hl
    have HL := Lib.hid hl; clear hl
    go_enter Tryz.func163, Tryz.ntmps163
    go_wp2_with fail
    have H0 := Lib.hid (own_empty w 3 1)
    go_loopw [6, 12] (fun v i wr => ∃ j : Nat, j ≤ n ∧ i = .int .i64 j ∧ Hid ((l.take j).all (fun x => decide (x < 9223372036854775808)) = true) ∧ Hid (wr.ownsRow w.heap.size 3 1 v j (((l.take j).map id).map (Value.int .i64))) ∧ Hid (Below w.heap.size w wr)) (fun _ i _ => n - (intOf i).toNat)
    case atStart => exact ⟨0, by omega, rfl, rfl, own_nil _ _ _ _, Below.refl _ _⟩
    case round =>
      obtain ⟨j, hj, rfl, hok, ho, hb⟩ := hrel
      by_cases hlt : j < n
      · obtain ⟨b, o, hA, hbl, hcell⟩ := HR.out.at_ hlt
        subst hA
        have hc3 := (hb.out.cell (p := ⟨b, o + j, none⟩) hbl).trans hcell
        have hy := getD_u64' HU.out j
        clear hcell
        generalize hx : l.getD j 0 = x at hc3 hy
        have HX := Lib.hid hx; clear hx
        by_cases hbad : 9223372036854775808 ≤ x
        · have hw : wrap64 x < 0 := by unfold wrap64; omega
          go_wp2_with fail
          go_ret2
          have h := mapOk_bad (f := id) (er := 2) (ok := fun x => decide (x < 9223372036854775808)) (j := j) (l := l) (by rw [HN.out]; exact hlt) (by rw [HX.out]; exact decide_eq_false (by omega))
          rw [HL.out] at h
          injection h with h1 h2
          subst h1 h2
          exact ⟨none, 0, 0, rfl, Sl.nil _ _, hb.out⟩
        · have hw : wrap64 x = x := by unfold wrap64; omega
          go_wp2_with (at_builtin; refine wpList_i64 _ rfl _ _ rfl w.heap.size _ j _ rfl (ho.out.alloc _) _ 1 1 [_] rfl (Rd.one _ _ _) (by omega) (by have := hb.out.size; simp; omega) ?_; intro G c w2 hown hgr hcc)
          have HOWN := Lib.hid hown; clear hown
          go_wp2_with fail
          go_roundw
          case rel =>
            refine ⟨j + 1, by omega, by go_num, all_snoc (by rw [HN.out]; exact hlt) hok.out (by rw [HX.out]; exact decide_eq_true (by omega)), ?_, push_ hb.out (Nat.le_refl _) ho.out hgr⟩
            have h := HOWN.out
            rw [map_snoc (by rw [HN.out]; exact hlt), HX.out]
            exact h
          case measure => simp [intOf] <;> omega
      · go_wp2_with fail
        obtain ⟨G, c, rfl⟩ := own_form ho.out
        go_ret2
        have h := HL.out
        rw [mapOk_good (j := j) (by rw [HN.out]; omega) hok.out] at h
        injection h with h1 h2
        subst h1 h2
        exact ⟨_, _, _, rfl, Sl.of_own ho.out, hb.out⟩
  · rw [if_pos rfl] at hl
    have HL := Lib.hid hl; clear hl
    go_enter Tryz.func163, Tryz.ntmps163
    go_wp2_with fail
    have H0 := Lib.hid (own_empty w 3 1)
    go_loopw [6, 12] (fun v i wr => ∃ j : Nat, j ≤ n ∧ i = .int .i64 j ∧ Hid ((l.take j).all (fun _ => true) = true) ∧ Hid (wr.ownsRow w.heap.size 3 1 v j (((l.take j).map zag).map (Value.int .i64))) ∧ Hid (Below w.heap.size w wr)) (fun _ i _ => n - (intOf i).toNat)
    case atStart => exact ⟨0, by omega, rfl, rfl, own_nil _ _ _ _, Below.refl _ _⟩
    case round =>
      obtain ⟨j, hj, rfl, hok, ho, hb⟩ := hrel
      by_cases hlt : j < n
      · obtain ⟨b, o, hA, hbl, hcell⟩ := HR.out.at_ hlt
        subst hA
        have hc3 := (hb.out.cell (p := ⟨b, o + j, none⟩) hbl).trans hcell
        have hy := getD_u64' HU.out j
        clear hcell
        generalize hx : l.getD j 0 = x at hc3 hy
        have HX := Lib.hid hx; clear hx
        · go_wp2_with fail
          refine (Zag_any _ _ hy.1 hy.2).mono ?_; rintro e w' ⟨rfl, rfl⟩
          go_wp2_with (at_builtin; refine wpList_i64 _ rfl _ _ rfl w.heap.size _ j _ rfl (ho.out.alloc _) _ 1 1 [_] rfl (Rd.one _ _ _) (by omega) (by have := hb.out.size; simp; omega) ?_; intro G c w2 hown hgr hcc)
          have HOWN := Lib.hid hown; clear hown
          go_wp2_with fail
          go_roundw
          case rel =>
            refine ⟨j + 1, by omega, by go_num, all_snoc (by rw [HN.out]; exact hlt) hok.out (by rfl), ?_, push_ hb.out (Nat.le_refl _) ho.out hgr⟩
            have h := HOWN.out
            rw [map_snoc (by rw [HN.out]; exact hlt), HX.out]
            exact h
          case measure => simp [intOf] <;> omega
      · go_wp2_with fail
        obtain ⟨G, c, rfl⟩ := own_form ho.out
        go_ret2
        have h := HL.out
        rw [mapOk_good (j := j) (by rw [HN.out]; omega) hok.out] at h
        injection h with h1 h2
        subst h1 h2
        exact ⟨_, _, _, rfl, Sl.of_own ho.out, hb.out⟩

set_option maxRecDepth 100000 in
set_option maxHeartbeats 1000000 in
theorem refPlain8_any (w : World) (A : Option Addr) (n cap : Nat) (l : List Int) (hr : Ri w .i64 A n l) (hu : I64 l) (hn : n ≤ 1000000) (s : Bool) (r : List Int) (er : Int) (hl : plainL l s = (r, er)) :
    Calls Tryz.prog 57 #[.slice A n cap, .bool s] w (RowErr .u64 w r er) := by
  have HR := Lib.hid hr; have HU := Lib.hid hu; have HN := Lib.hid hr.len
  clear hr hu
  unfold plainL at hl
  cases s
  · rw [if_neg (by simp)] at hl
    have HL := Lib.hid hl; clear hl
    go_enter Tryz.func57, Tryz.ntmps57
    go_wp2_with fail
    have H0 := Lib.hid (own_empty w 109 1)
    go_loopw [6, 7] (fun v i wr => ∃ j : Nat, j ≤ n ∧ i = .int .i64 j ∧ Hid ((l.take j).all (fun x => decide (0 ≤ x)) = true) ∧ Hid (wr.ownsRow w.heap.size 109 1 v j (((l.take j).map id).map (Value.int .u64))) ∧ Hid (Below w.heap.size w wr)) (fun _ i _ => n - (intOf i).toNat)
    case atStart => exact ⟨0, by omega, rfl, rfl, own_empty w _ 1, (Below.refl w.heap.size w).alloc (Nat.le_refl _) _⟩
    case round =>
      obtain ⟨j, hj, rfl, hok, ho, hb⟩ := hrel
      by_cases hlt : j < n
      · obtain ⟨b, o, hA, hbl, hcell⟩ := HR.out.at_ hlt
        subst hA
        have hc3 := (hb.out.cell (p := ⟨b, o + j, none⟩) hbl).trans hcell
        have hy := getD_i64 HU.out j
        clear hcell
        generalize hx : l.getD j 0 = x at hc3 hy
        have HX := Lib.hid hx; clear hx
        by_cases hbad : x < 0
        · go_wp2_with fail
          refine (refPlain_any _ false _ hy.1 hy.2).mono ?_; rintro e w' ⟨rfl, rfl⟩
          rw [if_neg Bool.false_ne_true, Bool.false_or, decide_eq_false (by omega)]
          go_wp2_with fail
          go_ret2
          have h := mapOk_bad (f := id) (er := 1) (ok := fun x => decide (0 ≤ x)) (j := j) (l := l) (by rw [HN.out]; exact hlt) (by rw [HX.out]; exact decide_eq_false (by omega))
          rw [HL.out] at h
          injection h with h1 h2
          subst h1 h2
          exact ⟨none, 0, 0, rfl, Sl.nil _ _, hb.out⟩
        · go_wp2_with fail
          refine (refPlain_any _ false _ hy.1 hy.2).mono ?_; rintro e w' ⟨rfl, rfl⟩
          rw [if_neg Bool.false_ne_true, Bool.false_or, decide_eq_true (by omega), show max x 0 = x from by omega]
          go_wp2_with (at_builtin; refine wpList_u64 _ rfl _ _ rfl w.heap.size _ j _ rfl (ho.out.alloc _) _ 1 1 [_] rfl (Rd.one _ _ _) (by omega) (by have := hb.out.size; simp; omega) ?_; intro G c w2 hown hgr hcc)
          have HOWN := Lib.hid hown; clear hown
          go_wp2_with fail
          go_roundw
          case rel =>
            refine ⟨j + 1, by omega, by go_num, all_snoc (by rw [HN.out]; exact hlt) hok.out (by rw [HX.out]; exact decide_eq_true (by omega)), ?_, push_ hb.out (Nat.le_refl _) ho.out hgr⟩
            have h := HOWN.out
            rw [map_snoc (by rw [HN.out]; exact hlt), HX.out]
            exact h
          case measure => simp [intOf] <;> omega
      · go_wp2_with fail
        obtain ⟨G, c, rfl⟩ := own_form ho.out
        go_ret2
        have h := HL.out
        rw [mapOk_good (j := j) (by rw [HN.out]; omega) hok.out] at h
        injection h with h1 h2
        subst h1 h2
        exact ⟨_, _, _, rfl, Sl.of_own ho.out, hb.out⟩
  · rw [if_pos rfl] at hl
    have HL := Lib.hid hl; clear hl
    go_enter Tryz.func57, Tryz.ntmps57
    go_wp2_with fail
    have H0 := Lib.hid (own_empty w 109 1)
    go_loopw [6, 7] (fun v i wr => ∃ j : Nat, j ≤ n ∧ i = .int .i64 j ∧ Hid ((l.take j).all (fun _ => true) = true) ∧ Hid (wr.ownsRow w.heap.size 109 1 v j (((l.take j).map zig).map (Value.int .u64))) ∧ Hid (Below w.heap.size w wr)) (fun _ i _ => n - (intOf i).toNat)
    case atStart => exact ⟨0, by omega, rfl, rfl, own_empty w _ 1, (Below.refl w.heap.size w).alloc (Nat.le_refl _) _⟩
    case round =>
      obtain ⟨j, hj, rfl, hok, ho, hb⟩ := hrel
      by_cases hlt : j < n
      · obtain ⟨b, o, hA, hbl, hcell⟩ := HR.out.at_ hlt
        subst hA
        have hc3 := (hb.out.cell (p := ⟨b, o + j, none⟩) hbl).trans hcell
        have hy := getD_i64 HU.out j
        clear hcell
        generalize hx : l.getD j 0 = x at hc3 hy
        have HX := Lib.hid hx; clear hx
        · go_wp2_with fail
          refine (refPlain_any _ true _ hy.1 hy.2).mono ?_; rintro e w' ⟨rfl, rfl⟩
          rw [if_pos rfl, Bool.true_or]
          go_wp2_with (at_builtin; refine wpList_u64 _ rfl _ _ rfl w.heap.size _ j _ rfl (ho.out.alloc _) _ 1 1 [_] rfl (Rd.one _ _ _) (by omega) (by have := hb.out.size; simp; omega) ?_; intro G c w2 hown hgr hcc)
          have HOWN := Lib.hid hown; clear hown
          go_wp2_with fail
          go_roundw
          case rel =>
            refine ⟨j + 1, by omega, by go_num, all_snoc (by rw [HN.out]; exact hlt) hok.out (by rfl), ?_, push_ hb.out (Nat.le_refl _) ho.out hgr⟩
            have h := HOWN.out
            rw [map_snoc (by rw [HN.out]; exact hlt), HX.out]
            exact h
          case measure => simp [intOf] <;> omega
      · go_wp2_with fail
        obtain ⟨G, c, rfl⟩ := own_form ho.out
        go_ret2
        have h := HL.out
        rw [mapOk_good (j := j) (by rw [HN.out]; omega) hok.out] at h
        injection h with h1 h2
        subst h1 h2
        exact ⟨_, _, _, rfl, Sl.of_own ho.out, hb.out⟩

set_option maxRecDepth 100000 in
set_option maxHeartbeats 1000000 in
theorem refMade8_any (w : World) (A : Option Addr) (n cap : Nat) (l : List Int) (hr : Ri w .u64 A n l) (hu : U64 l) (hn : n ≤ 1000000) (s : Bool) (r : List Int) (er : Int) (hl : madeL l s = (r, er)) :
    Calls Tryz.prog 112 #[.slice A n cap, .bool s] w (RowErr .i64 w r er) := by
  have HR := Lib.hid hr; have HU := Lib.hid hu; have HN := Lib.hid hr.len
  clear hr hu
  unfold madeL at hl
  cases s
  · rw [if_neg (by simp)] at hl
    have HL := Lib.hid hl; clear hl
    go_enter Tryz.func112, Tryz.ntmps112
    go_wp2_with fail
    have H0 := Lib.hid (own_empty w 3 1)
    go_loopw [6, 7] (fun v i wr => ∃ j : Nat, j ≤ n ∧ i = .int .i64 j ∧ Hid ((l.take j).all (fun x => decide (x < 9223372036854775808)) = true) ∧ Hid (wr.ownsRow w.heap.size 3 1 v j (((l.take j).map id).map (Value.int .i64))) ∧ Hid (Below w.heap.size w wr)) (fun _ i _ => n - (intOf i).toNat)
    case atStart => exact ⟨0, by omega, rfl, rfl, own_empty w _ 1, (Below.refl w.heap.size w).alloc (Nat.le_refl _) _⟩
    case round =>
      obtain ⟨j, hj, rfl, hok, ho, hb⟩ := hrel
      by_cases hlt : j < n
      · obtain ⟨b, o, hA, hbl, hcell⟩ := HR.out.at_ hlt
        subst hA
        have hc3 := (hb.out.cell (p := ⟨b, o + j, none⟩) hbl).trans hcell
        have hy := getD_u64' HU.out j
        clear hcell
        generalize hx : l.getD j 0 = x at hc3 hy
        have HX := Lib.hid hx; clear hx
        by_cases hbad : 9223372036854775808 ≤ x
        · go_wp2_with fail
          refine (refMade_any _ false _ hy.1 hy.2 0 false (by unfold madeR; rw [if_neg Bool.false_ne_true, if_pos (by omega)])).mono ?_; rintro e w' ⟨rfl, rfl⟩
          go_wp2_with fail
          go_ret2
          have h := mapOk_bad (f := id) (er := 2) (ok := fun x => decide (x < 9223372036854775808)) (j := j) (l := l) (by rw [HN.out]; exact hlt) (by rw [HX.out]; exact decide_eq_false (by omega))
          rw [HL.out] at h
          injection h with h1 h2
          subst h1 h2
          exact ⟨none, 0, 0, rfl, Sl.nil _ _, hb.out⟩
        · go_wp2_with fail
          refine (refMade_any _ false _ hy.1 hy.2 x true (by unfold madeR; rw [if_neg Bool.false_ne_true, if_neg (by omega)])).mono ?_; rintro e w' ⟨rfl, rfl⟩
          go_wp2_with (at_builtin; refine wpList_i64 _ rfl _ _ rfl w.heap.size _ j _ rfl (ho.out.alloc _) _ 1 1 [_] rfl (Rd.one _ _ _) (by omega) (by have := hb.out.size; simp; omega) ?_; intro G c w2 hown hgr hcc)
          have HOWN := Lib.hid hown; clear hown
          go_wp2_with fail
          go_roundw
          case rel =>
            refine ⟨j + 1, by omega, by go_num, all_snoc (by rw [HN.out]; exact hlt) hok.out (by rw [HX.out]; exact decide_eq_true (by omega)), ?_, push_ hb.out (Nat.le_refl _) ho.out hgr⟩
            have h := HOWN.out
            rw [map_snoc (by rw [HN.out]; exact hlt), HX.out]
            exact h
          case measure => simp [intOf] <;> omega
      · go_wp2_with fail
        obtain ⟨G, c, rfl⟩ := own_form ho.out
        go_ret2
        have h := HL.out
        rw [mapOk_good (j := j) (by rw [HN.out]; omega) hok.out] at h
        injection h with h1 h2
        subst h1 h2
        exact ⟨_, _, _, rfl, Sl.of_own ho.out, hb.out⟩
  · rw [if_pos rfl] at hl
    have HL := Lib.hid hl; clear hl
    go_enter Tryz.func112, Tryz.ntmps112
    go_wp2_with fail
    have H0 := Lib.hid (own_empty w 3 1)
    go_loopw [6, 7] (fun v i wr => ∃ j : Nat, j ≤ n ∧ i = .int .i64 j ∧ Hid ((l.take j).all (fun _ => true) = true) ∧ Hid (wr.ownsRow w.heap.size 3 1 v j (((l.take j).map zag).map (Value.int .i64))) ∧ Hid (Below w.heap.size w wr)) (fun _ i _ => n - (intOf i).toNat)
    case atStart => exact ⟨0, by omega, rfl, rfl, own_empty w _ 1, (Below.refl w.heap.size w).alloc (Nat.le_refl _) _⟩
    case round =>
      obtain ⟨j, hj, rfl, hok, ho, hb⟩ := hrel
      by_cases hlt : j < n
      · obtain ⟨b, o, hA, hbl, hcell⟩ := HR.out.at_ hlt
        subst hA
        have hc3 := (hb.out.cell (p := ⟨b, o + j, none⟩) hbl).trans hcell
        have hy := getD_u64' HU.out j
        clear hcell
        generalize hx : l.getD j 0 = x at hc3 hy
        have HX := Lib.hid hx; clear hx
        · go_wp2_with fail
          refine (refMade_any _ true _ hy.1 hy.2 (zag x) true (rfl)).mono ?_; rintro e w' ⟨rfl, rfl⟩
          go_wp2_with (at_builtin; refine wpList_i64 _ rfl _ _ rfl w.heap.size _ j _ rfl (ho.out.alloc _) _ 1 1 [_] rfl (Rd.one _ _ _) (by omega) (by have := hb.out.size; simp; omega) ?_; intro G c w2 hown hgr hcc)
          have HOWN := Lib.hid hown; clear hown
          go_wp2_with fail
          go_roundw
          case rel =>
            refine ⟨j + 1, by omega, by go_num, all_snoc (by rw [HN.out]; exact hlt) hok.out (by rfl), ?_, push_ hb.out (Nat.le_refl _) ho.out hgr⟩
            have h := HOWN.out
            rw [map_snoc (by rw [HN.out]; exact hlt), HX.out]
            exact h
          case measure => simp [intOf] <;> omega
      · go_wp2_with fail
        obtain ⟨G, c, rfl⟩ := own_form ho.out
        go_ret2
        have h := HL.out
        rw [mapOk_good (j := j) (by rw [HN.out]; omega) hok.out] at h
        injection h with h1 h2
        subst h1 h2
        exact ⟨_, _, _, rfl, Sl.of_own ho.out, hb.out⟩
end Go.Proofs.YtmejoococajikaaGreat

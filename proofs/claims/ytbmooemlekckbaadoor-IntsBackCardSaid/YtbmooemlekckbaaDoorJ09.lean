/- Joined texts: RefPack, Map8, Concat, RefPackF, Concat5. Each has its own head line. No condition beyond those that its theorems state. -/
import Derived.Handy
import Derived.Lib.AppendZerosOnto
import Derived.LoopN
import Derived.Test.YtbmooemlekckbaaDoorJ08
import Derived.Test.YtbmooemlekckbaaDoorJ07
import Derived.Test.YtbmooemlekckbaaDoorJ02
import Derived.Test.YtbmooemlekckbaaDoorJ06
set_option linter.unusedVariables false

/- The reference of package bits: Size, Pack. -/
namespace Go.Proofs.YtbmooemlekckbaaDoor
open Go.RowKit

/-- The world while the reference packs. -/
def RefW (w0 wr : World) (N at_ X : Nat) : Prop :=
  Blk wr w0.heap.size 5 (bytesArr X N) ∧ Below w0.heap.size w0 wr ∧ X % 2 ^ (8 * N - at_) = 0

theorem and_bit (a : Nat) (h : a < 18446744073709551616) : bits BinOp.and IntKind.u64 (a : Int) 1 = ((a % 2 : Nat) : Int) := by
  rw [and_one_u64 _ (by omega) (by omega)]; rfl

theorem RefW.drew {w wi : World} {N p X : Nat} (h : Hid (RefW w wi N p X)) : Hid (RefW w wi.drew N p X) := ⟨h.out.1.drew, h.out.2.1.drew, h.out.2.2⟩
theorem shr128 (p : Nat) : (128 : Int) / 2 ^ (p % 8) = ((2 ^ (7 - p % 8) : Nat) : Int) := by
  have : p % 8 = 0 ∨ p % 8 = 1 ∨ p % 8 = 2 ∨ p % 8 = 3 ∨ p % 8 = 4 ∨ p % 8 = 5 ∨ p % 8 = 6 ∨ p % 8 = 7 := by omega
  rcases this with h | h | h | h | h | h | h | h <;> rw [h] <;> decide
theorem RefW_bit {w wi : World} {N a0 k V y s p : Nat} (hs : s + 1 ≤ k) (hak : a0 + k ≤ 8 * N) (hp : p = a0 + (k - (s + 1))) (hb : y / 2 ^ s % 2 = 1)
    (hin : RefW w wi N p ((V * 2 ^ (k - (s + 1)) + y / 2 ^ (s + 1)) * 2 ^ (8 * N - p))) :
    ∃ d : Nat, d < 256 ∧ wi.cell? ⟨w.heap.size, p / 8, none⟩ = some (.int .u8 d) ∧ wi.frozen? ⟨w.heap.size, p / 8, none⟩ = false ∧ (d : Int) + 128 / 2 ^ (p % 8) < 256 ∧ 0 < (128 : Int) / 2 ^ (p % 8) ∧
      RefW w (wi.setCell ⟨w.heap.size, p / 8, none⟩ (.int .u8 ((d : Int) + 128 / 2 ^ (p % 8)))) N (a0 + (k - s)) ((V * 2 ^ (k - s) + y / 2 ^ s) * 2 ^ (8 * N - (a0 + (k - s)))) := by
  obtain ⟨h1, h2, h3⟩ := hin
  obtain ⟨_, e2, e3⟩ := put_fits _ N p 1 1 (by omega) (by omega) h3 (by omega) (by omega)
  simp only [Nat.one_mul] at e2 e3
  have hj : p / 8 < N := by omega
  refine ⟨_, byteAt_lt _ N (p / 8), (h1.cell _).trans (bytesArr_get _ N _ hj), h1.frozen _, ?_, ?_, ?_, ?_, ?_⟩
  · rw [shr128]
    rw [show 8 - p % 8 - 1 = 7 - p % 8 from by omega] at e2
    omega
  · rw [shr128]
    have := Nat.two_pow_pos (7 - p % 8)
    omega
  · rw [shr128]
    have h := h1.set_ (p / 8) (.int .u8 ((byteAt ((V * 2 ^ (k - (s + 1)) + y / 2 ^ (s + 1)) * 2 ^ (8 * N - p)) N (p / 8) + 2 ^ (8 - p % 8 - 1) : Nat) : Int))
    rw [bytesArr_add _ N _ _ hj e2, ← e3] at h
    have hn := pack_num V y k s 1 (8 * N - p - 1) hs
    rw [hb, Nat.one_mul, show 8 * N - p - 1 + 1 = 8 * N - p from by omega] at hn
    rw [hn, show 8 - p % 8 - 1 = 7 - p % 8 from by omega, show 8 * N - p - 1 = 8 * N - (a0 + (k - s)) from by omega] at h
    exact h
  · exact h2.setCell (Nat.le_refl _) _
  · exact Nat.mul_mod_left _ _
theorem RefW_zero {w wi : World} {N a0 k V y s p : Nat} (hs : s + 1 ≤ k) (hak : a0 + k ≤ 8 * N) (hp : p = a0 + (k - (s + 1))) (hb : y / 2 ^ s % 2 = 0)
    (hin : RefW w wi N p ((V * 2 ^ (k - (s + 1)) + y / 2 ^ (s + 1)) * 2 ^ (8 * N - p))) :
      RefW w wi N (a0 + (k - s)) ((V * 2 ^ (k - s) + y / 2 ^ s) * 2 ^ (8 * N - (a0 + (k - s)))) := by
  obtain ⟨h1, h2, h3⟩ := hin
  have hn := pack_num V y k s 1 (8 * N - p - 1) hs
  rw [hb, Nat.zero_mul, Nat.add_zero, show 8 * N - p - 1 + 1 = 8 * N - p from by omega, show 8 * N - p - 1 = 8 * N - (a0 + (k - s)) from by omega] at hn
  rw [hn] at h1
  exact ⟨h1, h2, Nat.mul_mod_left _ _⟩

end Go.Proofs.YtbmooemlekckbaaDoor

/- direct.Plain and direct.Made. -/
namespace Go.Proofs.YtbmooemlekckbaaDoor
open Go.RowKit

theorem info_i64 : (Tryd.prog.info? 3).map (fun i => (i.zero, i.size, i.bytes)) = some (some (.int .i64 0), 1, 8) := by kernel_rfl
/-- append onto a row of the call's own, elements of kind i64, whatever is appended. -/
theorem wpList_i64 (w : World) {ops : Array Oper} {rest : List Oper} {o : Oper} {a : Act} {Q : Exit → Act → World → Prop} (hgd : o.guard = none) (s x : Operand)
    (ho : o.op = .call { callee := .builtin .append, args := #[s, x], argTypes := #[22, 22] })
    (base : Nat) (v : Value) (n : Nat) (l : List Int) (hs : a.eval s = v) (hown : w.ownsRow base 3 1 v n (l.map (Value.int .i64)))
    (A : Option Addr) (m c : Nat) (l2 : List Int) (hx : a.eval x = .slice A m c) (hr : Ri w .i64 A m l2) (hb : n + m ≤ 2000000000) (hbase : base ≤ w.heap.size)
    (h : ∀ G cap w', w'.ownsRow base 3 1 (.slice G (n + m) cap) (n + m) ((l ++ l2).map (Value.int .i64)) → w.grownBy w' v.ownBlock → n + m ≤ cap → wpList Tryd.prog ops Q rest (a.put o.dst (.slice G (n + m) cap)) w') : wpList Tryd.prog ops Q (o :: rest) a w := by
  obtain ⟨i0, hi, hz0, hz1, hz2⟩ := info_parts info_i64
  refine wpList_append_any w hgd s x 22 ho base 3 i0 (.int .i64 0) 1 8 Tryd.underlying22 hi hz0 hz1 hz2 rfl (by decide) v n _ hs hown A m c _ hx hr (Ri.oneCell _ _) (by unfold maxLen; omega) (by omega) hbase ?_
  intro G cap w' h1 h2 _ h4
  rw [← List.map_append] at h1
  exact h G cap w' h1 h2 h4

/-- Each is turned by f, or all are refused. -/
def mapOk (f : Int → Int) (ok : Int → Bool) (er : Int) (l : List Int) : List Int × Int := if l.all ok then (l.map f, 0) else ([], er)
theorem mapOk_bad {f : Int → Int} {ok : Int → Bool} {er : Int} {l : List Int} {j : Nat} (hj : j < l.length) (h : ok (l.getD j 0) = false) : mapOk f ok er l = ([], er) := by
  unfold mapOk
  rw [if_neg]
  intro h2
  have := List.all_eq_true.1 h2 _ (getD_mem l j hj)
  rw [h] at this; cases this
theorem mapOk_good {f : Int → Int} {ok : Int → Bool} {er : Int} {l : List Int} {j : Nat} (hj : l.length ≤ j) (h : (l.take j).all ok = true) : mapOk f ok er l = ((l.take j).map f, 0) := by
  unfold mapOk
  rw [List.take_of_length_le hj] at h ⊢
  rw [if_pos h]
theorem all_snoc {ok : Int → Bool} {l : List Int} {j : Nat} (hj : j < l.length) (h : (l.take j).all ok = true) (h2 : ok (l.getD j 0) = true) : (l.take (j + 1)).all ok = true := by
  rw [take_snoc l j hj, List.all_append, h]; simpa using h2
theorem map_snoc {f : Int → Int} {l : List Int} {j : Nat} (hj : j < l.length) : (l.take (j + 1)).map f = (l.take j).map f ++ [f (l.getD j 0)] := by
  rw [take_snoc l j hj, List.map_append, List.map_singleton]
def RowErr (k : IntKind) (w : World) (l : List Int) (er : Int) (e : Ending) (w' : World) : Prop :=
  ∃ G n c, e = .returned (.tuple #[.slice G n c, .int .i64 er]) ∧ Sl w' k G n c l ∧ Below w.heap.size w w'
def plainL (l : List Int) (s : Bool) : List Int × Int := if s then mapOk zig (fun _ => true) 1 l else mapOk id (fun x => decide (0 ≤ x)) 1 l
def madeL (l : List Int) (s : Bool) : List Int × Int := if s then mapOk zag (fun _ => true) 2 l else mapOk id (fun x => decide (x < 9223372036854775808)) 2 l
theorem getD_i64 {l : List Int} (h : I64 l) (i : Nat) : -9223372036854775808 ≤ l.getD i 0 ∧ l.getD i 0 < 9223372036854775808 := by
  rcases Nat.lt_or_ge i l.length with h1 | h1
  · exact h _ (by simp [List.getD, List.getElem?_eq_getElem h1])
  · simp [List.getD, List.getElem?_eq_none h1]
theorem getD_u64' {l : List Int} (h : U64 l) (i : Nat) : 0 ≤ l.getD i 0 ∧ l.getD i 0 < 18446744073709551616 := by
  rcases Nat.lt_or_ge i l.length with h1 | h1
  · exact h _ (by simp [List.getD, List.getElem?_eq_getElem h1])
  · simp [List.getD, List.getElem?_eq_none h1]
theorem own_nil (w : World) (B : Nat) (e : TypeId) (size : Nat) : w.ownsRow B e size (.slice none 0 0) 0 [] := ⟨by simp, .inl ⟨rfl, rfl⟩⟩

set_option maxRecDepth 100000 in
set_option maxHeartbeats 1000000 in
theorem Plain_any (w : World) (A : Option Addr) (n cap : Nat) (l : List Int) (hr : Ri w .i64 A n l) (hu : I64 l) (hn : n ≤ 1000000) (s : Bool) (r : List Int) (er : Int) (hl : plainL l s = (r, er)) :
    Calls Tryd.prog 62 #[.slice A n cap, .bool s] w (RowErr .u64 w r er) := by
  have HR := Lib.hid hr; have HU := Lib.hid hu; have HN := Lib.hid hr.len
  clear hr hu
  unfold plainL at hl
  cases s
  · rw [if_neg (by simp)] at hl
    have HL := Lib.hid hl; clear hl
    go_enter Tryd.func62, Tryd.ntmps62
    go_wp2_with fail
    have H0 := Lib.hid (own_empty w 89 1)
    go_loopw [6, 12] (fun v i wr => ∃ j : Nat, j ≤ n ∧ i = .int .i64 j ∧ Hid ((l.take j).all (fun x => decide (0 ≤ x)) = true) ∧ Hid (wr.ownsRow w.heap.size 89 1 v j (((l.take j).map id).map (Value.int .u64))) ∧ Hid (Below w.heap.size w wr)) (fun _ i _ => n - (intOf i).toNat)
    case atStart => exact ⟨0, by omega, rfl, rfl, own_nil _ _ _ _, Below.refl _ _⟩
    case round =>
      obtain ⟨j, hj, rfl, hok, ho, hb⟩ := hrel
      by_cases hlt : j < n
      · obtain ⟨b, o, hA, hbl, hcell⟩ := HR.out.at_ hlt
        subst hA
        have hc3 := (hb.out.cell (p := ⟨b, o + j, none⟩) hbl).trans hcell
        have hy := getD_i64 HU.out j
        clear hcell
        generalize hx : l.getD j 0 = x at hc3 hy
        have HX := Lib.hid hx; clear hx
        by_cases hbad : x < 0
        · go_wp2_with fail
          go_ret2
          have h := mapOk_bad (f := id) (er := 1) (ok := fun x => decide (0 ≤ x)) (j := j) (l := l) (by rw [HN.out]; exact hlt) (by rw [HX.out]; exact decide_eq_false (by omega))
          rw [HL.out] at h
          injection h with h1 h2
          subst h1 h2
          exact ⟨none, 0, 0, rfl, Sl.nil _ _, hb.out⟩
        · go_wp2_with (at_builtin; refine wpList_u64 _ rfl _ _ rfl w.heap.size _ j _ rfl (ho.out.alloc _) _ 1 1 [_] rfl (Rd.one _ _ _) (by omega) (by have := hb.out.size; simp; omega) ?_; intro G c w2 hown hgr hcc)
          have HOWN := Lib.hid hown; clear hown
          go_wp2_with fail
          go_roundw
          case rel =>
            refine ⟨j + 1, by omega, by go_num, all_snoc (by rw [HN.out]; exact hlt) hok.out (by rw [HX.out]; exact decide_eq_true (by omega)), ?_, push_ hb.out (Nat.le_refl _) ho.out hgr⟩
            have h := HOWN.out
            rw [map_snoc (by rw [HN.out]; exact hlt), HX.out]
            exact h
          case measure => simp [intOf] <;> omega
      · go_wp2_with fail
        obtain ⟨G, c, rfl⟩ := own_form ho.out
        go_ret2
        have h := HL.out
        rw [mapOk_good (j := j) (by rw [HN.out]; omega) hok.out] at h
        injection h with h1 h2
        subst h1 h2
        exact ⟨_, _, _, rfl, Sl.of_own ho.out, hb.out⟩
  · rw [if_pos rfl] at hl
    have HL := Lib.hid hl; clear hl
    go_enter Tryd.func62, Tryd.ntmps62
    go_wp2_with fail
    have H0 := Lib.hid (own_empty w 89 1)
    go_loopw [6, 12] (fun v i wr => ∃ j : Nat, j ≤ n ∧ i = .int .i64 j ∧ Hid ((l.take j).all (fun _ => true) = true) ∧ Hid (wr.ownsRow w.heap.size 89 1 v j (((l.take j).map zig).map (Value.int .u64))) ∧ Hid (Below w.heap.size w wr)) (fun _ i _ => n - (intOf i).toNat)
    case atStart => exact ⟨0, by omega, rfl, rfl, own_nil _ _ _ _, Below.refl _ _⟩
    case round =>
      obtain ⟨j, hj, rfl, hok, ho, hb⟩ := hrel
      by_cases hlt : j < n
      · obtain ⟨b, o, hA, hbl, hcell⟩ := HR.out.at_ hlt
        subst hA
        have hc3 := (hb.out.cell (p := ⟨b, o + j, none⟩) hbl).trans hcell
        have hy := getD_i64 HU.out j
        clear hcell
        generalize hx : l.getD j 0 = x at hc3 hy
        have HX := Lib.hid hx; clear hx
        · go_wp2_with fail
          refine (Zig_any _ _ hy.1 hy.2).mono ?_; rintro e w' ⟨rfl, rfl⟩
          go_wp2_with (at_builtin; refine wpList_u64 _ rfl _ _ rfl w.heap.size _ j _ rfl (ho.out.alloc _) _ 1 1 [_] rfl (Rd.one _ _ _) (by omega) (by have := hb.out.size; simp; omega) ?_; intro G c w2 hown hgr hcc)
          have HOWN := Lib.hid hown; clear hown
          go_wp2_with fail
          go_roundw
          case rel =>
            refine ⟨j + 1, by omega, by go_num, all_snoc (by rw [HN.out]; exact hlt) hok.out (by rfl), ?_, push_ hb.out (Nat.le_refl _) ho.out hgr⟩
            have h := HOWN.out
            rw [map_snoc (by rw [HN.out]; exact hlt), HX.out]
            exact h
          case measure => simp [intOf] <;> omega
      · go_wp2_with fail
        obtain ⟨G, c, rfl⟩ := own_form ho.out
        go_ret2
        have h := HL.out
        rw [mapOk_good (j := j) (by rw [HN.out]; omega) hok.out] at h
        injection h with h1 h2
        subst h1 h2
        exact ⟨_, _, _, rfl, Sl.of_own ho.out, hb.out⟩

set_option maxRecDepth 100000 in
set_option maxHeartbeats 1000000 in
theorem Made_any (w : World) (A : Option Addr) (n cap : Nat) (l : List Int) (hr : Ri w .u64 A n l) (hu : U64 l) (hn : n ≤ 1000000) (s : Bool) (r : List Int) (er : Int) (hl : madeL l s = (r, er)) :
    Calls Tryd.prog 79 #[.slice A n cap, .bool s] w (RowErr .i64 w r er) := by
  have HR := Lib.hid hr; have HU := Lib.hid hu; have HN := Lib.hid hr.len
  clear hr hu
  unfold madeL at hl
  cases s
  · rw [if_neg (by simp)] at hl
    have HL := Lib.hid hl; clear hl
    go_enter Tryd.func79, Tryd.ntmps79
    go_wp2_with fail
    have H0 := Lib.hid (own_empty w 3 1)
    go_loopw [6, 12] (fun v i wr => ∃ j : Nat, j ≤ n ∧ i = .int .i64 j ∧ Hid ((l.take j).all (fun x => decide (x < 9223372036854775808)) = true) ∧ Hid (wr.ownsRow w.heap.size 3 1 v j (((l.take j).map id).map (Value.int .i64))) ∧ Hid (Below w.heap.size w wr)) (fun _ i _ => n - (intOf i).toNat)
    case atStart => exact ⟨0, by omega, rfl, rfl, own_nil _ _ _ _, Below.refl _ _⟩
    case round =>
      obtain ⟨j, hj, rfl, hok, ho, hb⟩ := hrel
      by_cases hlt : j < n
      · obtain ⟨b, o, hA, hbl, hcell⟩ := HR.out.at_ hlt
        subst hA
        have hc3 := (hb.out.cell (p := ⟨b, o + j, none⟩) hbl).trans hcell
        have hy := getD_u64' HU.out j
        clear hcell
        generalize hx : l.getD j 0 = x at hc3 hy
        have HX := Lib.hid hx; clear hx
        by_cases hbad : 9223372036854775808 ≤ x
        · have hw : wrap64 x < 0 := by unfold wrap64; omega
          go_wp2_with fail
          go_ret2
          have h := mapOk_bad (f := id) (er := 2) (ok := fun x => decide (x < 9223372036854775808)) (j := j) (l := l) (by rw [HN.out]; exact hlt) (by rw [HX.out]; exact decide_eq_false (by omega))
          rw [HL.out] at h
          injection h with h1 h2
          subst h1 h2
          exact ⟨none, 0, 0, rfl, Sl.nil _ _, hb.out⟩
        · have hw : wrap64 x = x := by unfold wrap64; omega
          go_wp2_with (at_builtin; refine wpList_i64 _ rfl _ _ rfl w.heap.size _ j _ rfl (ho.out.alloc _) _ 1 1 [_] rfl (Rd.one _ _ _) (by omega) (by have := hb.out.size; simp; omega) ?_; intro G c w2 hown hgr hcc)
          have HOWN := Lib.hid hown; clear hown
          go_wp2_with fail
          go_roundw
          case rel =>
            refine ⟨j + 1, by omega, by go_num, all_snoc (by rw [HN.out]; exact hlt) hok.out (by rw [HX.out]; exact decide_eq_true (by omega)), ?_, push_ hb.out (Nat.le_refl _) ho.out hgr⟩
            have h := HOWN.out
            rw [map_snoc (by rw [HN.out]; exact hlt), HX.out]
            exact h
          case measure => simp [intOf] <;> omega
      · go_wp2_with fail
        obtain ⟨G, c, rfl⟩ := own_form ho.out
        go_ret2
        have h := HL.out
        rw [mapOk_good (j := j) (by rw [HN.out]; omega) hok.out] at h
        injection h with h1 h2
        subst h1 h2
        exact ⟨_, _, _, rfl, Sl.of_own ho.out, hb.out⟩
  · rw [if_pos rfl] at hl
    have HL := Lib.hid hl; clear hl
    go_enter Tryd.func79, Tryd.ntmps79
    go_wp2_with fail
    have H0 := Lib.hid (own_empty w 3 1)
    go_loopw [6, 12] (fun v i wr => ∃ j : Nat, j ≤ n ∧ i = .int .i64 j ∧ Hid ((l.take j).all (fun _ => true) = true) ∧ Hid (wr.ownsRow w.heap.size 3 1 v j (((l.take j).map zag).map (Value.int .i64))) ∧ Hid (Below w.heap.size w wr)) (fun _ i _ => n - (intOf i).toNat)
    case atStart => exact ⟨0, by omega, rfl, rfl, own_nil _ _ _ _, Below.refl _ _⟩
    case round =>
      obtain ⟨j, hj, rfl, hok, ho, hb⟩ := hrel
      by_cases hlt : j < n
      · obtain ⟨b, o, hA, hbl, hcell⟩ := HR.out.at_ hlt
        subst hA
        have hc3 := (hb.out.cell (p := ⟨b, o + j, none⟩) hbl).trans hcell
        have hy := getD_u64' HU.out j
        clear hcell
        generalize hx : l.getD j 0 = x at hc3 hy
        have HX := Lib.hid hx; clear hx
        · go_wp2_with fail
          refine (Zag_any _ _ hy.1 hy.2).mono ?_; rintro e w' ⟨rfl, rfl⟩
          go_wp2_with (at_builtin; refine wpList_i64 _ rfl _ _ rfl w.heap.size _ j _ rfl (ho.out.alloc _) _ 1 1 [_] rfl (Rd.one _ _ _) (by omega) (by have := hb.out.size; simp; omega) ?_; intro G c w2 hown hgr hcc)
          have HOWN := Lib.hid hown; clear hown
          go_wp2_with fail
          go_roundw
          case rel =>
            refine ⟨j + 1, by omega, by go_num, all_snoc (by rw [HN.out]; exact hlt) hok.out (by rfl), ?_, push_ hb.out (Nat.le_refl _) ho.out hgr⟩
            have h := HOWN.out
            rw [map_snoc (by rw [HN.out]; exact hlt), HX.out]
            exact h
          case measure => simp [intOf] <;> omega
      · go_wp2_with fail
        obtain ⟨G, c, rfl⟩ := own_form ho.out
        go_ret2
        have h := HL.out
        rw [mapOk_good (j := j) (by rw [HN.out]; omega) hok.out] at h
        injection h with h1 h2
        subst h1 h2
        exact ⟨_, _, _, rfl, Sl.of_own ho.out, hb.out⟩

end Go.Proofs.YtbmooemlekckbaaDoor

/- slices.Grow on the nil slice of bytes, and slices.Concat of two slices of bytes. -/
namespace Go.Proofs.YtbmooemlekckbaaDoor
open Go.RowKit

def EmptyOut (w : World) (e : Ending) (w' : World) : Prop :=
  ∃ G c, e = .returned (.slice G 0 c) ∧ c ≤ 9223372036854775807 ∧ Hid (w'.ownsRow w.heap.size 5 1 (.slice G 0 c) 0 []) ∧ Below w.heap.size w w'

set_option maxRecDepth 100000 in
set_option maxHeartbeats 1000000 in
theorem Grow_any (w : World) (n : Nat) (hn : n ≤ 10000000) :
    Calls Tryd.prog 94 #[.slice none 0 0, .int .i64 n] w (EmptyOut w) := by
  rcases Nat.eq_zero_or_pos n with rfl | h0
  · go_enter Tryd.func94, Tryd.ntmps94
    go_wp2_with fail
    go_ret
    exact ⟨none, 0, rfl, by omega, ⟨rfl, .inl ⟨rfl, rfl⟩⟩, Below.refl _ _⟩
  · have hB : (Tryd.t5).bytes = 1 := by kernel_rfl
    have h1 : ¬ (281474976710656 < (n : Int) * ((Tryd.t5).bytes : Int)) := by rw [hB]; omega
    have h2 : ¬ (281474976710656 < Builtin.nextslicecap n 0 * (Tryd.t5).bytes) := by
      have := growslice_fits (need := n) (old := 0) (bytes := (Tryd.t5).bytes) h0 (by rw [hB]; omega)
      omega
    have h3 := grownCap_ge w n 0 5
    have h4 := grownCap_le_maxLen w n 0 5 (by unfold maxLen; omega)
    unfold grownCap at h3 h4
    unfold maxLen at h4
    clear hB
    go_enter Tryd.func94, Tryd.ntmps94
    go_wp2_with fail
    go_ret
    refine ⟨_, _, rfl, by omega, ⟨rfl, .inr ⟨w.heap.size, _, _, rfl, Nat.le_refl _, Blk.new w _ _, Nat.zero_le _, by unfold maxLen; omega, ?_, by simp⟩⟩, ?_⟩
    · simp [Builtin.zeroCells]; omega
    · exact ((Below.refl w.heap.size w).alloc (Nat.le_refl _) _).drew

set_option maxRecDepth 100000 in
set_option maxHeartbeats 1000000 in
theorem Concat_any (w : World) (b : Nat) (A : Option Addr) (n cA : Nat) (la : List Int) (B : Option Addr) (m cB : Nat) (lb : List Int)
    (hb : Blk w b 27 #[.slice A n cA, .slice B m cB]) (ha : Ri w .u8 A n la) (hr : Ri w .u8 B m lb) (hn : n ≤ 1000000) (hm : m ≤ 1000000) :
    Calls Tryd.prog 66 #[.slice (some ⟨b, 0, none⟩) 2 2] w (BytesOut w (la ++ lb)) := by
  have HA := Lib.hid ha; have HB := Lib.hid hr
  have hlt := hb.lt
  have g0 : w.cell? ⟨b, 0, none⟩ = some (.slice A n cA) := (hb.cell 0).trans rfl
  have g1 : w.cell? ⟨b, 1, none⟩ = some (.slice B m cB) := (hb.cell 1).trans rfl
  clear ha hr
  go_enter Tryd.func66, Tryd.ntmps66
  go_wp2_with fail
  refine wp_loop_rounds 3 ?_
  rw [rounds_succ]
  go_wp2_with fail
  rw [rounds_succ]
  go_wp2_with fail
  rw [rounds_succ]
  go_wp2_with fail
  have hG := Grow_any w (n + m) (by omega)
  rw [Int.natCast_add] at hG
  refine hG.mono ?_; rintro e w1 ⟨G, c, rfl, hc, hown, hb1⟩
  clear hG g0 g1
  have h0 := (Blk.below_ hb hb1)
  have g0 : w1.cell? ⟨b, 0, none⟩ = some (.slice A n cA) := (h0.cell 0).trans rfl
  have g1 : w1.cell? ⟨b, 1, none⟩ = some (.slice B m cB) := (h0.cell 1).trans rfl
  go_wp2_with fail
  refine wp_loop_rounds 3 ?_
  rw [rounds_succ]
  go_wp2_with (at_builtin; refine wpList_u8 _ rfl (.tmp 31) (.tmp 32) rfl w.heap.size _ 0 [] rfl hown.out _ _ _ la rfl (HA.out.below hb1) (by omega) hb1.size ?_; intro G2 c2 w2 hown2 hgr _)
  rw [Nat.zero_add, List.nil_append] at hown2
  have hb2 := push0 hb1 (Nat.le_refl _) hown.out hgr
  have HO2 := Lib.hid hown2
  have h0 := (Blk.below_ hb hb2)
  have g0 : w2.cell? ⟨b, 0, none⟩ = some (.slice A n cA) := (h0.cell 0).trans rfl
  have g1 : w2.cell? ⟨b, 1, none⟩ = some (.slice B m cB) := (h0.cell 1).trans rfl
  clear hown2 hgr
  go_wp2_with fail
  rw [rounds_succ]
  go_wp2_with (at_builtin; refine wpList_u8 _ rfl (.tmp 31) (.tmp 32) rfl w.heap.size _ n la rfl HO2.out _ _ _ lb rfl (HB.out.below hb2) (by omega) hb2.size ?_; intro G3 c3 w3 hown3 hgr _)
  have hb3 := push0 hb2 (Nat.le_refl _) HO2.out hgr
  have HO3 := Lib.hid hown3
  clear hown3 hgr
  go_wp2_with fail
  rw [rounds_succ]
  go_wp2_with fail
  go_ret
  exact ⟨_, _, _, rfl, Sl.of_own HO3.out, hb3⟩
end Go.Proofs.YtbmooemlekckbaaDoor

/- The reference of bits.Pack: what it answers lies in a block of its own (printed by wip/refpackf.py out of XRefPack). -/
namespace Go.Proofs.YtbmooemlekckbaaDoor
open Go.RowKit

/-- Bytes in a new block, and an error's number, are handed back. -/
def BytesNew (w : World) (l : List Int) (er : Int) (e : Ending) (w' : World) : Prop :=
  ∃ G n c, e = .returned (.tuple #[.slice G n c, .int .i64 er]) ∧ Sl w' .u8 G n c l ∧ Below w.heap.size w w' ∧ ∀ g o, G = some ⟨g, o, none⟩ → w.heap.size ≤ g
end Go.Proofs.YtbmooemlekckbaaDoor

/- slices.Concat of 5 slices of bytes. -/
namespace Go.Proofs.YtbmooemlekckbaaDoor
open Go.RowKit

set_option maxRecDepth 100000 in
set_option maxHeartbeats 2000000 in
theorem Concat5_any (w : World) (b : Nat) (A0 : Option Addr) (n0 c0 : Nat) (l0 : List Int) (A1 : Option Addr) (n1 c1 : Nat) (l1 : List Int) (A2 : Option Addr) (n2 c2 : Nat) (l2 : List Int) (A3 : Option Addr) (n3 c3 : Nat) (l3 : List Int) (A4 : Option Addr) (n4 c4 : Nat) (l4 : List Int)
    (hb : Blk w b 27 #[.slice A0 n0 c0, .slice A1 n1 c1, .slice A2 n2 c2, .slice A3 n3 c3, .slice A4 n4 c4]) (h0 : Ri w .u8 A0 n0 l0) (h1 : Ri w .u8 A1 n1 l1) (h2 : Ri w .u8 A2 n2 l2) (h3 : Ri w .u8 A3 n3 l3) (h4 : Ri w .u8 A4 n4 l4) (m0 : n0 ≤ 1000000) (m1 : n1 ≤ 1000000) (m2 : n2 ≤ 1000000) (m3 : n3 ≤ 1000000) (m4 : n4 ≤ 1000000) :
    Calls Tryd.prog 66 #[.slice (some ⟨b, 0, none⟩) 5 5] w (BytesOut w (l0 ++ l1 ++ l2 ++ l3 ++ l4)) := by
  have H0 := Lib.hid h0
  have H1 := Lib.hid h1
  have H2 := Lib.hid h2
  have H3 := Lib.hid h3
  have H4 := Lib.hid h4
  have hlt := hb.lt
  have g0 : w.cell? ⟨b, 0, none⟩ = some (.slice A0 n0 c0) := (hb.cell 0).trans rfl
  have g1 : w.cell? ⟨b, 1, none⟩ = some (.slice A1 n1 c1) := (hb.cell 1).trans rfl
  have g2 : w.cell? ⟨b, 2, none⟩ = some (.slice A2 n2 c2) := (hb.cell 2).trans rfl
  have g3 : w.cell? ⟨b, 3, none⟩ = some (.slice A3 n3 c3) := (hb.cell 3).trans rfl
  have g4 : w.cell? ⟨b, 4, none⟩ = some (.slice A4 n4 c4) := (hb.cell 4).trans rfl
  clear h0 h1 h2 h3 h4
  go_enter Tryd.func66, Tryd.ntmps66
  go_wp2_with fail
  refine wp_loop_rounds 6 ?_
  rw [rounds_succ]
  go_wp2_with fail
  rw [rounds_succ]
  go_wp2_with fail
  rw [rounds_succ]
  go_wp2_with fail
  rw [rounds_succ]
  go_wp2_with fail
  rw [rounds_succ]
  go_wp2_with fail
  rw [rounds_succ]
  go_wp2_with fail
  have hG := Grow_any w (n0 + n1 + n2 + n3 + n4) (by omega)
  simp only [Int.natCast_add] at hG
  refine hG.mono ?_; rintro e w1 ⟨G, c, rfl, hc, hown, hb1⟩
  clear hG g0 g1 g2 g3 g4
  have hq0 := (Blk.below_ hb hb1)
  have g0 : w1.cell? ⟨b, 0, none⟩ = some (.slice A0 n0 c0) := (hq0.cell 0).trans rfl
  have g1 : w1.cell? ⟨b, 1, none⟩ = some (.slice A1 n1 c1) := (hq0.cell 1).trans rfl
  have g2 : w1.cell? ⟨b, 2, none⟩ = some (.slice A2 n2 c2) := (hq0.cell 2).trans rfl
  have g3 : w1.cell? ⟨b, 3, none⟩ = some (.slice A3 n3 c3) := (hq0.cell 3).trans rfl
  have g4 : w1.cell? ⟨b, 4, none⟩ = some (.slice A4 n4 c4) := (hq0.cell 4).trans rfl
  go_wp2_with fail
  refine wp_loop_rounds 6 ?_
  rw [rounds_succ]
  go_wp2_with (at_builtin; refine wpList_u8 _ rfl (.tmp 31) (.tmp 32) rfl w.heap.size _ (0) ([]) rfl hown.out _ _ _ l0 rfl (H0.out.below hb1) (by omega) hb1.size ?_; intro G2 e2 w2 hown2 hgr2 _)
  rw [Nat.zero_add, List.nil_append] at hown2
  have hb2 := push0 hb1 (Nat.le_refl _) hown.out hgr2
  have HO2 := Lib.hid hown2
  clear g0 g1 g2 g3 g4
  have hq2 := (Blk.below_ hb hb2)
  have g0 : w2.cell? ⟨b, 0, none⟩ = some (.slice A0 n0 c0) := (hq2.cell 0).trans rfl
  have g1 : w2.cell? ⟨b, 1, none⟩ = some (.slice A1 n1 c1) := (hq2.cell 1).trans rfl
  have g2 : w2.cell? ⟨b, 2, none⟩ = some (.slice A2 n2 c2) := (hq2.cell 2).trans rfl
  have g3 : w2.cell? ⟨b, 3, none⟩ = some (.slice A3 n3 c3) := (hq2.cell 3).trans rfl
  have g4 : w2.cell? ⟨b, 4, none⟩ = some (.slice A4 n4 c4) := (hq2.cell 4).trans rfl
  clear hown2 hgr2
  go_wp2_with fail
  rw [rounds_succ]
  go_wp2_with (at_builtin; refine wpList_u8 _ rfl (.tmp 31) (.tmp 32) rfl w.heap.size _ (n0) (l0) rfl HO2.out _ _ _ l1 rfl (H1.out.below hb2) (by omega) hb2.size ?_; intro G3 e3 w3 hown3 hgr3 _)
  have hb3 := push0 hb2 (Nat.le_refl _) HO2.out hgr3
  have HO3 := Lib.hid hown3
  clear g0 g1 g2 g3 g4
  have hq3 := (Blk.below_ hb hb3)
  have g0 : w3.cell? ⟨b, 0, none⟩ = some (.slice A0 n0 c0) := (hq3.cell 0).trans rfl
  have g1 : w3.cell? ⟨b, 1, none⟩ = some (.slice A1 n1 c1) := (hq3.cell 1).trans rfl
  have g2 : w3.cell? ⟨b, 2, none⟩ = some (.slice A2 n2 c2) := (hq3.cell 2).trans rfl
  have g3 : w3.cell? ⟨b, 3, none⟩ = some (.slice A3 n3 c3) := (hq3.cell 3).trans rfl
  have g4 : w3.cell? ⟨b, 4, none⟩ = some (.slice A4 n4 c4) := (hq3.cell 4).trans rfl
  clear hown3 hgr3
  go_wp2_with fail
  rw [rounds_succ]
  go_wp2_with (at_builtin; refine wpList_u8 _ rfl (.tmp 31) (.tmp 32) rfl w.heap.size _ (n0 + n1) (l0 ++ l1) rfl HO3.out _ _ _ l2 rfl (H2.out.below hb3) (by omega) hb3.size ?_; intro G4 e4 w4 hown4 hgr4 _)
  have hb4 := push0 hb3 (Nat.le_refl _) HO3.out hgr4
  have HO4 := Lib.hid hown4
  clear g0 g1 g2 g3 g4
  have hq4 := (Blk.below_ hb hb4)
  have g0 : w4.cell? ⟨b, 0, none⟩ = some (.slice A0 n0 c0) := (hq4.cell 0).trans rfl
  have g1 : w4.cell? ⟨b, 1, none⟩ = some (.slice A1 n1 c1) := (hq4.cell 1).trans rfl
  have g2 : w4.cell? ⟨b, 2, none⟩ = some (.slice A2 n2 c2) := (hq4.cell 2).trans rfl
  have g3 : w4.cell? ⟨b, 3, none⟩ = some (.slice A3 n3 c3) := (hq4.cell 3).trans rfl
  have g4 : w4.cell? ⟨b, 4, none⟩ = some (.slice A4 n4 c4) := (hq4.cell 4).trans rfl
  clear hown4 hgr4
  go_wp2_with fail
  rw [rounds_succ]
  go_wp2_with (at_builtin; refine wpList_u8 _ rfl (.tmp 31) (.tmp 32) rfl w.heap.size _ (n0 + n1 + n2) (l0 ++ l1 ++ l2) rfl HO4.out _ _ _ l3 rfl (H3.out.below hb4) (by omega) hb4.size ?_; intro G5 e5 w5 hown5 hgr5 _)
  have hb5 := push0 hb4 (Nat.le_refl _) HO4.out hgr5
  have HO5 := Lib.hid hown5
  clear g0 g1 g2 g3 g4
  have hq5 := (Blk.below_ hb hb5)
  have g0 : w5.cell? ⟨b, 0, none⟩ = some (.slice A0 n0 c0) := (hq5.cell 0).trans rfl
  have g1 : w5.cell? ⟨b, 1, none⟩ = some (.slice A1 n1 c1) := (hq5.cell 1).trans rfl
  have g2 : w5.cell? ⟨b, 2, none⟩ = some (.slice A2 n2 c2) := (hq5.cell 2).trans rfl
  have g3 : w5.cell? ⟨b, 3, none⟩ = some (.slice A3 n3 c3) := (hq5.cell 3).trans rfl
  have g4 : w5.cell? ⟨b, 4, none⟩ = some (.slice A4 n4 c4) := (hq5.cell 4).trans rfl
  clear hown5 hgr5
  go_wp2_with fail
  rw [rounds_succ]
  go_wp2_with (at_builtin; refine wpList_u8 _ rfl (.tmp 31) (.tmp 32) rfl w.heap.size _ (n0 + n1 + n2 + n3) (l0 ++ l1 ++ l2 ++ l3) rfl HO5.out _ _ _ l4 rfl (H4.out.below hb5) (by omega) hb5.size ?_; intro G6 e6 w6 hown6 hgr6 _)
  have hb6 := push0 hb5 (Nat.le_refl _) HO5.out hgr6
  have HO6 := Lib.hid hown6
  clear g0 g1 g2 g3 g4
  have hq6 := (Blk.below_ hb hb6)
  have g0 : w6.cell? ⟨b, 0, none⟩ = some (.slice A0 n0 c0) := (hq6.cell 0).trans rfl
  have g1 : w6.cell? ⟨b, 1, none⟩ = some (.slice A1 n1 c1) := (hq6.cell 1).trans rfl
  have g2 : w6.cell? ⟨b, 2, none⟩ = some (.slice A2 n2 c2) := (hq6.cell 2).trans rfl
  have g3 : w6.cell? ⟨b, 3, none⟩ = some (.slice A3 n3 c3) := (hq6.cell 3).trans rfl
  have g4 : w6.cell? ⟨b, 4, none⟩ = some (.slice A4 n4 c4) := (hq6.cell 4).trans rfl
  clear hown6 hgr6
  go_wp2_with fail
  rw [rounds_succ]
  go_wp2_with fail
  go_ret
  exact ⟨_, _, _, rfl, Sl.of_own HO6.out, hb6⟩
end Go.Proofs.YtbmooemlekckbaaDoor

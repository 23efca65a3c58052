/- Joined texts: IntRP. Each has its own head line. No condition beyond those that its theorems state. -/
import Derived.Test.YtbmooemlekckbaaGreatDoorJ40
import Derived.Test.YtbmooemlekckbaaGreatDoorJ41
import Derived.Test.YtbmooemlekckbaaGreatDoorJ36
import Derived.Test.YtbmooemlekckbaaGreatDoorJ05
set_option linter.unusedVariables false

/- The reference of ints.Put. -/
namespace Go.Proofs.YtbmooemlekckbaaGreatDoor
open Go.RowKit

/-- append onto a row of the call's own, elements of kind i64; where the new slice lies. -/
theorem wpList_i64y (w : World) {ops : Array Oper} {rest : List Oper} {o : Oper} {a : Act} {Q : Exit → Act → World → Prop} (hgd : o.guard = none) (s x : Operand)
    (ho : o.op = .call { callee := .builtin .append, args := #[s, x], argTypes := #[42, 42] })
    (base : Nat) (v : Value) (n : Nat) (l : List Int) (hs : a.eval s = v) (hown : w.ownsRow base 3 1 v n (l.map (Value.int .i64)))
    (A : Option Addr) (m c : Nat) (l2 : List Int) (hx : a.eval x = .slice A m c) (hr : Ri w .i64 A m l2) (hb : n + m ≤ 2000000000) (hbase : base ≤ w.heap.size)
    (h : ∀ G cap w', w'.ownsRow base 3 1 (.slice G (n + m) cap) (n + m) ((l ++ l2).map (Value.int .i64)) → w.grownBy w' v.ownBlock → n + m ≤ cap → ((Value.slice G (n + m) cap).ownBlock = v.ownBlock ∨ (Value.slice G (n + m) cap).ownBlock = some w.heap.size) → wpList Tryz.prog ops Q rest (a.put o.dst (.slice G (n + m) cap)) w') : wpList Tryz.prog ops Q (o :: rest) a w := by
  obtain ⟨i0, hi, hz0, hz1, hz2⟩ := info_parts info_i64
  refine wpList_append_any w hgd s x 42 ho base 3 i0 (.int .i64 0) 1 8 Tryz.underlying42 hi hz0 hz1 hz2 rfl (by decide) v n _ hs hown A m c _ hx hr (Ri.oneCell _ _) (by unfold maxLen; omega) (by omega) hbase ?_
  intro G cap w' h1 h2 h3 h4
  rw [← List.map_append] at h1
  exact h G cap w' h1 h2 h4 h3
/-- Four rows of the call's own, side by side. -/
def Rows4 (w0 w : World) (v1 v2 v3 v4 : Value) (b : List Bool) (x y z : List Int) : Prop :=
  w.ownsRow w0.heap.size 4 1 v1 b.length (b.map Value.bool) ∧ (w.ownsRow w0.heap.size 3 1 v2 x.length (x.map (Value.int .i64)) ∧ w.ownsRow w0.heap.size 3 1 v3 y.length (y.map (Value.int .i64)) ∧ w.ownsRow w0.heap.size 3 1 v4 z.length (z.map (Value.int .i64))) ∧ (Apart v2 v3 ∧ Apart v2 v4 ∧ Apart v3 v4) ∧ Below w0.heap.size w0 w
theorem Rows4.one {w0 w w3 : World} {v1 v2 v3 v4 V : Value} {b : List Bool} {x y z : List Int} {u : Bool} {o : Obj} (h : Rows4 w0 w v1 v2 v3 v4 b x y z)
    (hown : w3.ownsRow w0.heap.size 4 1 V (b.length + 1) ((b ++ [u]).map Value.bool)) (hg : (w.alloc o).grownBy w3 v1.ownBlock) : Rows4 w0 w3 V v2 v3 v4 (b ++ [u]) x y z := by
  obtain ⟨k1, ⟨k2, k3, k4⟩, ka, hb⟩ := h
  have kept : ∀ {v : Value} {n : Nat} {xs : List Value}, w.ownsRow w0.heap.size 3 1 v n xs → w3.ownsRow w0.heap.size 3 1 v n xs := fun hv => (own_apartV (k1.alloc o) (hv.alloc o) (by decide)).kept (hv.alloc o) hg
  exact ⟨by rw [List.length_append]; exact hown, ⟨kept k2, kept k3, kept k4⟩, ka, push_ hb (Nat.le_refl _) k1 hg⟩
theorem Rows4.two {w0 w w3 : World} {v1 v2 v3 v4 V : Value} {b : List Bool} {x y z : List Int} {u : Int} {o : Obj} (h : Rows4 w0 w v1 v2 v3 v4 b x y z)
    (hown : w3.ownsRow w0.heap.size 3 1 V (x.length + 1) ((x ++ [u]).map (Value.int .i64))) (hg : (w.alloc o).grownBy w3 v2.ownBlock) (hat : V.ownBlock = v2.ownBlock ∨ V.ownBlock = some (w.alloc o).heap.size) : Rows4 w0 w3 v1 V v3 v4 b (x ++ [u]) y z := by
  obtain ⟨k1, ⟨k2, k3, k4⟩, ⟨a1, a2, a3⟩, hb⟩ := h
  exact ⟨(own_apartV (k2.alloc o) (k1.alloc o) (by decide)).kept (k1.alloc o) hg, ⟨by rw [List.length_append]; exact hown, a1.kept (k3.alloc o) hg, a2.kept (k4.alloc o) hg⟩, ⟨a1.grown (k3.alloc o) (Nat.le_refl _) hat, a2.grown (k4.alloc o) (Nat.le_refl _) hat, a3⟩, push_ hb (Nat.le_refl _) k2 hg⟩
theorem Rows4.three {w0 w w3 : World} {v1 v2 v3 v4 V : Value} {b : List Bool} {x y z : List Int} {u : Int} {o : Obj} (h : Rows4 w0 w v1 v2 v3 v4 b x y z)
    (hown : w3.ownsRow w0.heap.size 3 1 V (y.length + 1) ((y ++ [u]).map (Value.int .i64))) (hg : (w.alloc o).grownBy w3 v3.ownBlock) (hat : V.ownBlock = v3.ownBlock ∨ V.ownBlock = some (w.alloc o).heap.size) : Rows4 w0 w3 v1 v2 V v4 b x (y ++ [u]) z := by
  obtain ⟨k1, ⟨k2, k3, k4⟩, ⟨a1, a2, a3⟩, hb⟩ := h
  exact ⟨(own_apartV (k3.alloc o) (k1.alloc o) (by decide)).kept (k1.alloc o) hg, ⟨a1.symm.kept (k2.alloc o) hg, by rw [List.length_append]; exact hown, a3.kept (k4.alloc o) hg⟩, ⟨(a1.symm.grown (k2.alloc o) (Nat.le_refl _) hat).symm, a2, a3.grown (k4.alloc o) (Nat.le_refl _) hat⟩, push_ hb (Nat.le_refl _) k3 hg⟩
theorem Rows4.four {w0 w w3 : World} {v1 v2 v3 v4 V : Value} {b : List Bool} {x y z : List Int} {u : Int} {o : Obj} (h : Rows4 w0 w v1 v2 v3 v4 b x y z)
    (hown : w3.ownsRow w0.heap.size 3 1 V (z.length + 1) ((z ++ [u]).map (Value.int .i64))) (hg : (w.alloc o).grownBy w3 v4.ownBlock) (hat : V.ownBlock = v4.ownBlock ∨ V.ownBlock = some (w.alloc o).heap.size) : Rows4 w0 w3 v1 v2 v3 V b x y (z ++ [u]) := by
  obtain ⟨k1, ⟨k2, k3, k4⟩, ⟨a1, a2, a3⟩, hb⟩ := h
  exact ⟨(own_apartV (k4.alloc o) (k1.alloc o) (by decide)).kept (k1.alloc o) hg, ⟨a2.symm.kept (k2.alloc o) hg, a3.symm.kept (k3.alloc o) hg, by rw [List.length_append]; exact hown⟩, ⟨a1, (a2.symm.grown (k2.alloc o) (Nat.le_refl _) hat).symm, (a3.symm.grown (k3.alloc o) (Nat.le_refl _) hat).symm⟩, push_ hb (Nat.le_refl _) k4 hg⟩
theorem own_emptyAt {w0 w : World} {t : TypeId} {g : Nat} (h : g = w.heap.size) (hB : w0.heap.size ≤ g) : (w.alloc (.cells #[] t)).ownsRow w0.heap.size t 1 (.slice (some ⟨g, 0, none⟩) 0 0) 0 [] := by
  subst h
  exact ⟨rfl, .inr ⟨w.heap.size, 0, _, rfl, hB, heap_alloc_new _ _, Nat.le_refl _, by unfold maxLen; omega, rfl, by simp⟩⟩
theorem rows4_start (w : World) : Rows4 w ((((w.alloc (.cells #[] 4)).alloc (.cells #[] 3)).alloc (.cells #[] 3)).alloc (.cells #[] 3)) (.slice (some ⟨w.heap.size, 0, none⟩) 0 0) (.slice (some ⟨w.heap.size + 1, 0, none⟩) 0 0) (.slice (some ⟨w.heap.size + 1 + 1, 0, none⟩) 0 0) (.slice (some ⟨w.heap.size + 1 + 1 + 1, 0, none⟩) 0 0) [] [] [] [] := by
  have a : ∀ (W : World) (o : Obj), Below W.heap.size W (W.alloc o) := fun W o => (Below.refl _ _).alloc (Nat.le_refl _) _
  have ap : ∀ g g' : Nat, g ≠ g' → Apart (.slice (some ⟨g, 0, none⟩) 0 0) (.slice (some ⟨g', 0, none⟩) 0 0) := by
    intro g g' h q h2 h3
    simp [Value.ownBlock] at h2 h3
    omega
  refine ⟨?_, ⟨?_, ?_, ?_⟩, ⟨ap _ _ (by omega), ap _ _ (by omega), ap _ _ (by omega)⟩, ((((Below.refl _ _).alloc (Nat.le_refl _) _).alloc (by simp) _).alloc (by simp; omega) _).alloc (by simp; omega) _⟩
  · exact own_below (own_below (own_below (own_emptyAt rfl (Nat.le_refl _)) (a _ _)) (a _ _)) (a _ _)
  · exact own_below (own_below (own_emptyAt (by simp) (by omega)) (a _ _)) (a _ _)
  · exact own_below (own_emptyAt (by simp) (by omega)) (a _ _)
  · exact own_emptyAt (by simp) (by omega)
theorem oneI {l : List Val} {j : Nat} {v : Val} (hv : l[j]? = some v) {β : Type} (f : Val → β) : (l.take (j + 1)).map f = (l.take j).map f ++ [f v] := by
  rw [List.take_add_one, hv, Option.toList_some, List.map_append]; rfl
theorem rb_one_ati {w : World} {x : Bool} {t : TypeId} {g : Nat} (h : g = w.heap.size) : Rb (w.alloc (.cells #[.bool x] t)) (some ⟨g, 0, none⟩) 1 [x] := by subst h; exact Rd.one _ _ _
theorem ri_one_ati {w : World} {k : IntKind} {x : Int} {t : TypeId} {g : Nat} (h : g = w.heap.size) : Ri (w.alloc (.cells #[.int k x] t)) k (some ⟨g, 0, none⟩) 1 [x] := by subst h; exact Rd.one _ _ _

set_option maxRecDepth 100000 in
set_option maxHeartbeats 8000000 in
theorem refPutIn_any (w : World) (k : Int) (A : Option Addr) (n cap : Nat) (l : List Val) (hr : Rv w A n l) (hf : ∀ v ∈ l, -9223372036854775808 ≤ v.n ∧ v.n < 9223372036854775808) (hn : n ≤ 100000) (r : List Int) (er : Int) (hp : putIn k l = (r, er)) :
    Calls Tryz.prog 8 #[.int .i64 k, .slice A n cap] w (BytesErr w r er) := by
  have HR := Lib.hid hr; have HN := Lib.hid hr.len; have HF := Lib.hid hf; have HP := Lib.hid hp
  clear hr hf hp
  cases hk : isNum k
  · have HK := Lib.hid hk
    have HZ : Hid (r = [] ∧ er = 1) := by
      have h := HP.out
      unfold putIn at h
      rw [hk, if_pos rfl] at h
      injection h with h1 h2
      exact ⟨h1.symm, h2.symm⟩
    clear hk
    go_enter Tryz.func8, Tryz.ntmps8
    go_wp2_with fail
    refine (refNumber_any _ _).mono ?_; rintro e w' ⟨rfl, rfl⟩
    rw [HK.out]
    go_wp2_with fail
    go_ret2
    obtain ⟨rfl, rfl⟩ := HZ.out
    exact ⟨_, _, _, rfl, Sl.nil _ _, Below.refl _ _⟩
  · have HK := Lib.hid hk
    clear hk
    by_cases hbig : 4096 < n
    · have HZ : Hid (r = [] ∧ er = 3) := by
        have h := HP.out
        unfold putIn at h
        rw [HK.out, if_neg (by simp), if_pos (by rw [HN.out]; exact hbig)] at h
        injection h with h1 h2
        exact ⟨h1.symm, h2.symm⟩
      go_enter Tryz.func8, Tryz.ntmps8
      go_wp2_with fail
      refine (refNumber_any _ _).mono ?_; rintro e w' ⟨rfl, rfl⟩
      rw [HK.out]
      go_wp2_with fail
      go_ret2
      obtain ⟨rfl, rfl⟩ := HZ.out
      exact ⟨_, _, _, rfl, Sl.nil _ _, Below.refl _ _⟩
    · have hn4 : n ≤ 4096 := by omega
      clear hbig
      go_enter Tryz.func8, Tryz.ntmps8
      go_wp2_with fail
      refine (refNumber_any _ _).mono ?_; rintro e w' ⟨rfl, rfl⟩
      rw [HK.out]
      go_wp2_with fail
      have HS := Lib.hid (rows4_start w)
      go_loopw [7, 8, 9, 10, 11, 12, 13, 14] (fun v1 v2 v3 v4 i _ _ _ wr => ∃ j : Nat, j ≤ n ∧ i = .int .i64 j ∧ Hid (∀ (q : Nat) (v : Val), q < j → l[q]? = some v → okI k v = true) ∧ Hid (Rows4 w wr v1 v2 v3 v4 ((l.take j).map fun v => decide (v.n = 1)) ((l.take j).map fun v => v.n) ((l.take j).map fun v => v.n / 1000) ((l.take j).map fun v => v.n % 1000))) (fun _ _ _ _ i _ _ _ _ => n - (intOf i).toNat)
      case atStart => exact ⟨0, by omega, rfl, Lib.hid (fun q v h => absurd h (by omega)), HS⟩
      case round =>
        obtain ⟨j, hj, rfl, hz, hrw⟩ := hrel
        have hb := hrw.out.2.2.2
        have hsz := hb.size
        have HB := Lib.hid hb
        clear hb
        by_cases hlt : j < n
        · obtain ⟨b, o, v, hA, hbl, hv, h1, h2, h3⟩ := HR.out.at_ hlt
          subst hA
          have g1 := (HB.out.cell (p := ⟨b, o + j * 3, none⟩) hbl).trans h1
          have g2 := (HB.out.cell (p := ⟨b, o + j * 3 + 1, none⟩) hbl).trans h2
          have g3 := (HB.out.cell (p := ⟨b, o + j * 3 + 2, none⟩) hbl).trans h3
          have hn2 := fit_at HF.out hv
          have HV := Lib.hid hv; have HC1 := Lib.hid h1; have HC2 := Lib.hid h2
          have HE1 := Lib.hid (oneI hv (fun v => decide (v.n = 1))); have HE2 := Lib.hid (oneI hv (fun v => v.n)); have HE3 := Lib.hid (oneI hv (fun v => v.n / 1000)); have HE4 := Lib.hid (oneI hv (fun v => v.n % 1000))
          clear h1 h2 h3 hv
          go_wp2_with fail
          refine (refMay_any _ k HK.out v).mono ?_; rintro e w2 ⟨bm, rfl, hbm, hb2⟩
          have HB2 := Lib.hid (on HB.out hb2)
          have c1 := (HB2.out.cell (p := ⟨b, o + j * 3, none⟩) hbl).trans HC1.out
          have c2 := (HB2.out.cell (p := ⟨b, o + j * 3 + 1, none⟩) hbl).trans HC2.out
          have HRW2 : Hid (Rows4 w w2 u7 u8 u9 u10 ((l.take j).map fun v => decide (v.n = 1)) ((l.take j).map fun v => v.n) ((l.take j).map fun v => v.n / 1000) ((l.take j).map fun v => v.n % 1000)) := by
            obtain ⟨k1, ⟨k2, k3, k4⟩, ka, _⟩ := hrw.out
            exact ⟨own_below k1 hb2, ⟨own_below k2 hb2, own_below k3 hb2, own_below k4 hb2⟩, ka, HB2.out⟩
          clear hb2 g1 g2 g3
          cases hvn : v.null
          · have hbe := hbm.out hvn
            rw [hvn] at c1
            cases hok : okI k v
            · have HBAD := Lib.hid (put_bad HP.out HK.out HN.out hn4 (all_bad HV.out hok))
              rw [hok] at hbe
              subst hbe
              clear hok hvn hbm
              go_wp2_with fail
              go_ret2
              obtain ⟨rfl, rfl⟩ := HBAD.out
              exact ⟨_, _, _, rfl, Sl.nil _ _, HB2.out⟩
            · have HOK := Lib.hid hok
              rw [hok] at hbe
              subst hbe
              clear hok hvn hbm
              go_wp2_with fail
              refine (Parts_any _ v.n hn2).mono ?_; rintro e w3 ⟨rfl, rfl⟩
              have q1 : ((l.take j).map fun v => decide (v.n = 1)).length ≤ 4096 := by rw [List.length_map, List.length_take]; omega
              have q2 : ((l.take j).map fun v => v.n).length ≤ 4096 := by rw [List.length_map, List.length_take]; omega
              have q3 : ((l.take j).map fun v => v.n / 1000).length ≤ 4096 := by rw [List.length_map, List.length_take]; omega
              have q4 : ((l.take j).map fun v => v.n % 1000).length ≤ 4096 := by rw [List.length_map, List.length_take]; omega
              have hsz2 := HB2.out.size
              clear hrw
              generalize ((l.take j).map fun v => decide (v.n = 1)) = LB at *
              generalize ((l.take j).map fun v => v.n) = LX at *
              generalize ((l.take j).map fun v => v.n / 1000) = LY at *
              generalize ((l.take j).map fun v => v.n % 1000) = LZ at *
              have HR1 := Lib.hid HRW2.out.1
              have hway : ∃ ub, (v.n == 1) = ub ∧ decide (v.n = 1) = ub := by
                by_cases h : v.n = 1
                · exact ⟨true, by simp [h], decide_eq_true h⟩
                · exact ⟨false, by simp [h], decide_eq_false h⟩
              obtain ⟨ub, hub, hud⟩ := hway
              have HUD := Lib.hid hud
              clear hud
              go_wp2_with (first
                | (at_builtin; refine wpList_bool _ rfl (.tmp 60) (.tmp 67) rfl w.heap.size _ LB.length LB rfl (own_below HR1.out ((Below.refl _ _).alloc (Nat.le_refl _) _)) _ 1 1 [ub] rfl (rb_one_ati rfl) (by omega) (by simp; omega) ?_; intro G1 d1 w4 hown hgr _; have HQ1 := Lib.hid (Rows4.one HRW2.out hown hgr); clear hown hgr; have e2 := (HQ1.out.2.2.2.cell (p := ⟨b, o + j * 3 + 1, none⟩) hbl).trans HC2.out; have hz4 := HQ1.out.2.2.2.size; have HR2 := Lib.hid HQ1.out.2.1.1)
                | (at_builtin; refine wpList_i64y _ rfl (.tmp 69) (.tmp 75) rfl w.heap.size _ LX.length LX rfl (own_below HR2.out ((Below.refl _ _).alloc (Nat.le_refl _) _)) _ 1 1 [_] rfl (ri_one_ati rfl) (by omega) (by simp; omega) ?_; intro G2 d2 w5 hown hgr _ hat; have HQ2 := Lib.hid (Rows4.two HQ1.out hown hgr hat); clear hown hgr hat; have hz5 := HQ2.out.2.2.2.size; have HR3 := Lib.hid HQ2.out.2.1.2.1)
                | (at_builtin; refine wpList_i64y _ rfl (.tmp 77) (.tmp 79) rfl w.heap.size _ LY.length LY rfl (own_below HR3.out ((Below.refl _ _).alloc (Nat.le_refl _) _)) _ 1 1 [_] rfl (ri_one_ati rfl) (by omega) (by simp; omega) ?_; intro G3 d3 w6 hown hgr _ hat; have HQ3 := Lib.hid (Rows4.three HQ2.out hown hgr hat); clear hown hgr hat; have hz6 := HQ3.out.2.2.2.size; have HR4 := Lib.hid HQ3.out.2.1.2.2)
                | (at_builtin; refine wpList_i64y _ rfl (.tmp 81) (.tmp 83) rfl w.heap.size _ LZ.length LZ rfl (own_below HR4.out ((Below.refl _ _).alloc (Nat.le_refl _) _)) _ 1 1 [_] rfl (ri_one_ati rfl) (by omega) (by simp; omega) ?_; intro G4 d4 w7 hown hgr _ hat; have HQ4 := Lib.hid (Rows4.four HQ3.out hown hgr hat); clear hown hgr hat))
              go_roundw
              case rel =>
                refine ⟨j + 1, by omega, by go_num, Lib.hid (fun q u h1 h2 => ?_), ?_⟩
                · rcases Nat.lt_or_ge q j with h3 | h3
                  · exact hz.out q u h3 h2
                  · obtain rfl : q = j := by omega
                    rw [HV.out] at h2
                    injection h2 with h2
                    rw [← h2]; exact HOK.out
                · rw [HE1.out, HE2.out, HE3.out, HE4.out]
                  have h := HQ4.out
                  rw [← HUD.out] at h
                  exact Lib.hid h
              case measure => simp [intOf] <;> omega
          · have HBAD := Lib.hid (put_bad HP.out HK.out HN.out hn4 (all_bad HV.out (ok_null hvn)))
            rw [hvn] at c1
            clear hvn hbm
            go_wp2_with fail
            go_ret2
            obtain ⟨rfl, rfl⟩ := HBAD.out
            exact ⟨_, _, _, rfl, Sl.nil _ _, HB2.out⟩
        · obtain rfl : j = n := by omega
          have HALL := Lib.hid (all_upto HN.out hz.out)
          have HI := Lib.hid (whole_i64 l HF.out)
          have hgood := put_good HP.out HK.out HN.out hn4 HALL.out
          have h4 := hrw.out
          rw [List.take_of_length_le (by rw [HN.out]; omega)] at h4
          obtain ⟨k1, ⟨k2, k3, k4⟩, _, _⟩ := h4
          have q1 : (l.map fun v => decide (v.n = 1)).length ≤ 4096 := by rw [List.length_map]; have := HN.out; omega
          have q2 : (l.map fun v => v.n).length ≤ 4096 := by rw [List.length_map]; have := HN.out; omega
          have q3 : (l.map fun v => v.n / 1000).length ≤ 4096 := by rw [List.length_map]; have := HN.out; omega
          have q4 : (l.map fun v => v.n % 1000).length ≤ 4096 := by rw [List.length_map]; have := HN.out; omega
          obtain ⟨p1, hp1, _, hp1l⟩ := gl_ok (l.map fun v => v.n / 1000) true HI.out.1 (keep_true _) q3
          obtain ⟨p2, hp2, _, hp2l⟩ := gl_ok (l.map fun v => v.n % 1000) false HI.out.2.1 HI.out.2.2.2 q4
          rw [hp1, hp2] at hgood
          obtain ⟨hiY, hiZ, hiX, _⟩ := HI.out
          have HP1 := Lib.hid hp1; have HP2 := Lib.hid hp2; have HIY := Lib.hid hiY; have HIZ := Lib.hid hiZ; have HIX := Lib.hid hiX
          clear hz hlt hrw hp1 hp2 hiX hiY hiZ HI HALL
          generalize (l.map fun v => decide (v.n = 1)) = LB at *
          generalize (l.map fun v => v.n) = LX at *
          generalize (l.map fun v => v.n / 1000) = LY at *
          generalize (l.map fun v => v.n % 1000) = LZ at *
          obtain ⟨G1, d1, rfl⟩ := own_form k1
          obtain ⟨G2, d2, rfl⟩ := own_form k2
          obtain ⟨G3, d3, rfl⟩ := own_form k3
          obtain ⟨G4, d4, rfl⟩ := own_form k4
          have S1 := Lib.hid (Sb.of_own k1); have S2 := Lib.hid (Sl.of_own k2); have S3 := Lib.hid (Sl.of_own k3); have S4 := Lib.hid (Sl.of_own k4)
          have s2 := S2.out.2; have s3 := S3.out.2; have s4 := S4.out.2
          obtain ⟨s21, s22⟩ := s2; obtain ⟨s31, s32⟩ := s3; obtain ⟨s41, s42⟩ := s4
          clear k1 k2 k3 k4
          rcases hgood with ⟨hk1, hput⟩ | ⟨hk5, hr5, he5⟩ | ⟨hk1, hk5, hput⟩
          · have t1 : (k == 1) = true := by simp [hk1]
            have HPUT := Lib.hid hput
            clear hk1 hput
            go_wp2_with fail
            refine (refBPut_any _ _ _ _ LB S1.out.1 (by omega) r er HPUT.out).mono ?_; rintro e w4 ⟨G6, n6, c6, rfl, hs4, hb4⟩
            have HB4 := Lib.hid (on HB.out hb4)
            have HS4 := Lib.hid hs4
            clear hs4 hb4
            go_wp2_with fail
            go_ret2
            exact ⟨_, _, _, rfl, HS4.out, HB4.out⟩
          · have t1 : (k == 1) = false := by simp [hk5]
            have t5 : (k == 5) = true := by simp [hk5]
            have HR5 := Lib.hid (And.intro hr5 he5)
            clear hk5 hr5 he5
            go_wp2_with fail
            refine (refPutGl_own _ _ _ _ LY S3.out.1 HIY.out s31 s32 (by omega) true p1 0 HP1.out).mono ?_; rintro e w4 ⟨G6, n6, c6, rfl, ho4, hb4⟩
            have HO4 := Lib.hid ho4; have HB4 := Lib.hid hb4
            have hn6 : n6 ≤ 50000 := by have := (Ri.of_own ho4).len; omega
            have HS44 := Lib.hid (S4.out.below hb4)
            clear ho4 hb4
            go_wp2_with fail
            refine (refPutGl_any _ _ _ _ LZ HS44.out.1 HIZ.out s41 s42 (by omega) false p2 0 HP2.out).mono ?_; rintro e w5 ⟨G7, n7, c7, rfl, hs5, hb5⟩
            have HB5 := Lib.hid (on HB4.out hb5)
            have HO5 := Lib.hid (own_below HO4.out hb5)
            have HS5 := Lib.hid hs5
            have hn7 : n7 ≤ 50000 := by have := hs5.1.len; omega
            have hz5 := HB5.out.size
            clear hs5 hb5
            go_wp2_with (at_builtin; refine wpList_u8 _ rfl _ _ rfl wr.heap.size _ n6 p1 rfl HO5.out _ n7 c7 p2 rfl HS5.out.1 (by omega) (by omega) ?_; intro G8 c8 w7 hown hgr hcc)
            have HOWN := Lib.hid hown
            have HB7 := Lib.hid (push0 HB5.out (Nat.le_refl _) HO5.out hgr)
            clear hown hgr
            go_wp2_with fail
            go_ret2
            obtain ⟨rfl, rfl⟩ := HR5.out
            exact ⟨_, _, _, rfl, Sl.of_own HOWN.out, on HB.out HB7.out⟩
          · have t1 : (k == 1) = false := by simp [hk1]
            have t5 : (k == 5) = false := by simp [hk5]
            have HPUT := Lib.hid hput
            clear hk1 hk5 hput
            go_wp2_with fail
            refine (refPutGl_any _ _ _ _ LX S2.out.1 HIX.out s21 s22 (by omega) true r er HPUT.out).mono ?_; rintro e w4 ⟨G6, n6, c6, rfl, hs4, hb4⟩
            have HB4 := Lib.hid (on HB.out hb4)
            have HS4 := Lib.hid hs4
            clear hs4 hb4
            go_wp2_with fail
            go_ret2
            exact ⟨_, _, _, rfl, HS4.out, HB4.out⟩
end Go.Proofs.YtbmooemlekckbaaGreatDoor

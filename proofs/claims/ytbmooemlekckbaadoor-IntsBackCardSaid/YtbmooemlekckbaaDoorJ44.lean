/- Joined texts: IntN. Each has its own head line. No condition beyond those that its theorems state. -/
import Derived.Test.YtbmooemlekckbaaDoorJ43
import Derived.Test.YtbmooemlekckbaaDoorJ31
import Derived.Test.YtbmooemlekckbaaDoorJ09
set_option linter.unusedVariables false

/- Ints: numbers out of values; the parts of a number. -/
namespace Go.Proofs.YtbmooemlekckbaaDoor
open Go.RowKit

theorem quo_parts (n : Int) : (n.tmod 1000 < 0 ∧ n.tdiv 1000 - 1 = n / 1000 ∧ n.tmod 1000 + 1000 = n % 1000) ∨ (0 ≤ n.tmod 1000 ∧ n.tdiv 1000 = n / 1000 ∧ n.tmod 1000 = n % 1000) := by
  rcases Int.lt_or_le n 0 with h | h
  · have h1 : n.tdiv 1000 = -((-n) / 1000) := by
      have := Int.neg_tdiv (-n) 1000
      rw [Int.neg_neg] at this
      rw [this, Int.tdiv_eq_ediv_of_nonneg (by omega)]
    have h2 : n.tmod 1000 = -((-n) % 1000) := by
      have := Int.neg_tmod (-n) 1000
      rw [Int.neg_neg] at this
      rw [this, Int.tmod_eq_emod_of_nonneg (by omega)]
    rw [h1, h2]
    omega
  · right
    rw [Int.tdiv_eq_ediv_of_nonneg h, Int.tmod_eq_emod_of_nonneg h]
    omega
theorem ret_i {a b : Int} (h : a = b) : Ending.returned (.int .i64 a) = .returned (.int .i64 b) := by rw [h]
set_option maxHeartbeats 400000 in
theorem whole_any (w : World) (n : Int) (hn : -9223372036854775808 ≤ n ∧ n < 9223372036854775808) :
    Calls Tryd.prog 15 #[.int .i64 n] w fun e w' => e = .returned (.int .i64 (n / 1000)) ∧ w = w' := by
  rcases quo_parts n with ⟨h1, h2, h3⟩ | ⟨h1, h2, h3⟩
  · have HQ := Lib.hid h2
    have b1 : -9223372036854776 ≤ n.tdiv 1000 := by omega
    have b2 : n.tdiv 1000 ≤ 9223372036854777 := by omega
    clear h2 h3
    go_enter Tryd.func15, Tryd.ntmps15
    go_wp2_with fail
    go_ret
    exact ⟨ret_i HQ.out, rfl⟩
  · have HQ := Lib.hid h2
    clear h2 h3
    go_enter Tryd.func15, Tryd.ntmps15
    go_wp2_with fail
    go_ret
    exact ⟨ret_i HQ.out, rfl⟩
set_option maxHeartbeats 400000 in
theorem left_any (w : World) (n : Int) (_hn : -9223372036854775808 ≤ n ∧ n < 9223372036854775808) :
    Calls Tryd.prog 16 #[.int .i64 n] w fun e w' => e = .returned (.int .i64 (n % 1000)) ∧ w = w' := by
  have hq : (n.tmod 1000 + 1000) % 1000 = n % 1000 := by
    rcases quo_parts n with ⟨h1, h2, h3⟩ | ⟨h1, h2, h3⟩ <;> omega
  have b1 : -1000 ≤ n.tmod 1000 := by rcases quo_parts n with ⟨h1, h2, h3⟩ | ⟨h1, h2, h3⟩ <;> omega
  have b2 : n.tmod 1000 ≤ 1000 := by rcases quo_parts n with ⟨h1, h2, h3⟩ | ⟨h1, h2, h3⟩ <;> omega
  have HQ := Lib.hid hq
  clear hq
  go_enter Tryd.func16, Tryd.ntmps16
  go_wp2_with fail
  go_ret
  exact ⟨ret_i HQ.out, rfl⟩
set_option maxHeartbeats 400000 in
theorem same_any (w : World) (n : Int) :
    Calls Tryd.prog 17 #[.int .i64 n] w fun e w' => e = .returned (.int .i64 n) ∧ w = w' := by
  go_enter Tryd.func17, Tryd.ntmps17
  go_wp2_with fail
  go_ret
  exact ⟨rfl, rfl⟩
set_option maxHeartbeats 400000 in
theorem one1_any (w : World) (n : Int) :
    Calls Tryd.prog 12 #[.int .i64 n] w fun e w' => e = .returned (.bool (decide (n = 1))) ∧ w = w' := by
  by_cases h : n = 1
  · subst h
    go_enter Tryd.func12, Tryd.ntmps12
    go_wp2_with fail
    go_ret
    exact ⟨rfl, rfl⟩
  · have h1 : (n == 1) = false := by simp [h]
    have HD := Lib.hid (decide_eq_false h)
    clear h
    go_enter Tryd.func12, Tryd.ntmps12
    go_wp2_with fail
    go_ret
    exact ⟨ret_bool HD.out.symm, rfl⟩
theorem rd_one_at {w : World} {x : Value} {t : TypeId} {g : Nat} (h : g = w.heap.size) : Rd (w.alloc (.cells #[x] t)) 1 (some ⟨g, 0, none⟩) 1 [x] := by subst h; exact Rd.one _ _ _
def IntsOutI (w : World) (l : List Int) (e : Ending) (w' : World) : Prop :=
  ∃ G n c, e = .returned (.slice G n c) ∧ Sl w' .i64 G n c l ∧ Below w.heap.size w w'
def BoolsOutI (w : World) (l : List Bool) (e : Ending) (w' : World) : Prop :=
  ∃ G n c, e = .returned (.slice G n c) ∧ Sb w' G n c l ∧ Below w.heap.size w w'
theorem fit_at {l : List Val} (h : ∀ v ∈ l, -9223372036854775808 ≤ v.n ∧ v.n < 9223372036854775808) {j : Nat} {v : Val} (hv : l[j]? = some v) : -9223372036854775808 ≤ v.n ∧ v.n < 9223372036854775808 := h v (List.mem_of_getElem? hv)

set_option maxRecDepth 100000 in
set_option maxHeartbeats 1000000 in
theorem numbersWhole_any (w : World) (A : Option Addr) (n cap : Nat) (l : List Val) (hr : Rv w A n l) (hf : ∀ v ∈ l, -9223372036854775808 ≤ v.n ∧ v.n < 9223372036854775808) (hn : n ≤ 1000000) :
    Calls Tryd.prog 14 #[.slice A n cap, .func (.func 15) #[] #[]] w (IntsOutI w (l.map fun v => v.n / 1000)) := by
  have HR := Lib.hid hr; have HN := Lib.hid hr.len; have HF := Lib.hid hf
  clear hr hf
  go_enter Tryd.func14, Tryd.ntmps14
  go_wp2_with fail
  go_loopw [5, 7, 10] (fun v _ i wr => ∃ j : Nat, j ≤ n ∧ i = .int .i64 j ∧ Hid (wr.ownsRow w.heap.size 3 1 v j (((l.take j).map fun v => v.n / 1000).map (Value.int .i64))) ∧ Hid (Below w.heap.size w wr)) (fun _ _ i _ => n - (intOf i).toNat)
  case atStart => exact ⟨0, by omega, rfl, Lib.hid (World.ownsRow_nil _ _ _ _), Below.refl _ _⟩
  case round =>
    obtain ⟨j, hj, rfl, ho, hb⟩ := hrel
    by_cases hlt : j < n
    · obtain ⟨b, o, v, hA, hbl, hv, h1, h2, h3⟩ := HR.out.at_ hlt
      subst hA
      have g1 := (hb.out.cell (p := ⟨b, o + j * 3, none⟩) hbl).trans h1
      have g2 := (hb.out.cell (p := ⟨b, o + j * 3 + 1, none⟩) hbl).trans h2
      have g3 := (hb.out.cell (p := ⟨b, o + j * 3 + 2, none⟩) hbl).trans h3
      have hn2 := fit_at HF.out hv
      have hz := hb.out.size
      have ht : Hid ((l.take (j + 1)).map (fun v => v.n / 1000) = (l.take j).map (fun v => v.n / 1000) ++ [(fun v => v.n / 1000) v]) := by
        rw [List.take_add_one, hv, Option.toList_some, List.map_append]; exact Lib.hid rfl
      have HO2 := Lib.hid (own_below ho.out ((Below.refl wr.heap.size wr).alloc (Nat.le_refl _) (.cells #[.bool v.null, .int .i64 v.n, .string v.s] 26)))
      have HW2 := Lib.hid (hb.out.alloc hz (.cells #[.bool v.null, .int .i64 v.n, .string v.s] 26))
      clear h1 h2 h3 hv
      go_wp2_with fail
      refine (whole_any _ v.n hn2).mono ?_; rintro e w2 ⟨rfl, rfl⟩
      go_wp2_with (at_builtin; refine wpList_i64 _ rfl _ _ rfl w.heap.size _ j _ rfl (own_below HO2.out ((Below.refl _ _).alloc (Nat.le_refl _) _)) _ 1 1 [_] rfl (rd_one_at (by simp)) (by omega) (by simp; omega) ?_; intro G c w3 hown hgr hcc)
      have HOWN := Lib.hid hown; have HNB := Lib.hid (push_ HW2.out (Nat.le_refl _) HO2.out hgr)
      clear hown hgr
      go_wp2_with fail
      go_roundw
      case rel =>
        refine ⟨j + 1, by omega, by go_num, ?_, HNB⟩
        have h := HOWN.out
        rw [ht.out]
        exact Lib.hid h
      case measure => simp [intOf] <;> omega
    · obtain rfl : j = n := by omega
      obtain ⟨G, c, rfl⟩ := own_form ho.out
      go_wp2_with fail
      go_ret
      have h := ho.out
      rw [List.take_of_length_le (by rw [HN.out]; omega)] at h
      exact ⟨_, _, _, rfl, Sl.of_own h, hb.out⟩

set_option maxRecDepth 100000 in
set_option maxHeartbeats 1000000 in
theorem numbersLeft_any (w : World) (A : Option Addr) (n cap : Nat) (l : List Val) (hr : Rv w A n l) (hf : ∀ v ∈ l, -9223372036854775808 ≤ v.n ∧ v.n < 9223372036854775808) (hn : n ≤ 1000000) :
    Calls Tryd.prog 14 #[.slice A n cap, .func (.func 16) #[] #[]] w (IntsOutI w (l.map fun v => v.n % 1000)) := by
  have HR := Lib.hid hr; have HN := Lib.hid hr.len; have HF := Lib.hid hf
  clear hr hf
  go_enter Tryd.func14, Tryd.ntmps14
  go_wp2_with fail
  go_loopw [5, 7, 10] (fun v _ i wr => ∃ j : Nat, j ≤ n ∧ i = .int .i64 j ∧ Hid (wr.ownsRow w.heap.size 3 1 v j (((l.take j).map fun v => v.n % 1000).map (Value.int .i64))) ∧ Hid (Below w.heap.size w wr)) (fun _ _ i _ => n - (intOf i).toNat)
  case atStart => exact ⟨0, by omega, rfl, Lib.hid (World.ownsRow_nil _ _ _ _), Below.refl _ _⟩
  case round =>
    obtain ⟨j, hj, rfl, ho, hb⟩ := hrel
    by_cases hlt : j < n
    · obtain ⟨b, o, v, hA, hbl, hv, h1, h2, h3⟩ := HR.out.at_ hlt
      subst hA
      have g1 := (hb.out.cell (p := ⟨b, o + j * 3, none⟩) hbl).trans h1
      have g2 := (hb.out.cell (p := ⟨b, o + j * 3 + 1, none⟩) hbl).trans h2
      have g3 := (hb.out.cell (p := ⟨b, o + j * 3 + 2, none⟩) hbl).trans h3
      have hn2 := fit_at HF.out hv
      have hz := hb.out.size
      have ht : Hid ((l.take (j + 1)).map (fun v => v.n % 1000) = (l.take j).map (fun v => v.n % 1000) ++ [(fun v => v.n % 1000) v]) := by
        rw [List.take_add_one, hv, Option.toList_some, List.map_append]; exact Lib.hid rfl
      have HO2 := Lib.hid (own_below ho.out ((Below.refl wr.heap.size wr).alloc (Nat.le_refl _) (.cells #[.bool v.null, .int .i64 v.n, .string v.s] 26)))
      have HW2 := Lib.hid (hb.out.alloc hz (.cells #[.bool v.null, .int .i64 v.n, .string v.s] 26))
      clear h1 h2 h3 hv
      go_wp2_with fail
      refine (left_any _ v.n hn2).mono ?_; rintro e w2 ⟨rfl, rfl⟩
      go_wp2_with (at_builtin; refine wpList_i64 _ rfl _ _ rfl w.heap.size _ j _ rfl (own_below HO2.out ((Below.refl _ _).alloc (Nat.le_refl _) _)) _ 1 1 [_] rfl (rd_one_at (by simp)) (by omega) (by simp; omega) ?_; intro G c w3 hown hgr hcc)
      have HOWN := Lib.hid hown; have HNB := Lib.hid (push_ HW2.out (Nat.le_refl _) HO2.out hgr)
      clear hown hgr
      go_wp2_with fail
      go_roundw
      case rel =>
        refine ⟨j + 1, by omega, by go_num, ?_, HNB⟩
        have h := HOWN.out
        rw [ht.out]
        exact Lib.hid h
      case measure => simp [intOf] <;> omega
    · obtain rfl : j = n := by omega
      obtain ⟨G, c, rfl⟩ := own_form ho.out
      go_wp2_with fail
      go_ret
      have h := ho.out
      rw [List.take_of_length_le (by rw [HN.out]; omega)] at h
      exact ⟨_, _, _, rfl, Sl.of_own h, hb.out⟩

set_option maxRecDepth 100000 in
set_option maxHeartbeats 1000000 in
theorem numbersSame_any (w : World) (A : Option Addr) (n cap : Nat) (l : List Val) (hr : Rv w A n l) (hf : ∀ v ∈ l, -9223372036854775808 ≤ v.n ∧ v.n < 9223372036854775808) (hn : n ≤ 1000000) :
    Calls Tryd.prog 14 #[.slice A n cap, .func (.func 17) #[] #[]] w (IntsOutI w (l.map fun v => v.n)) := by
  have HR := Lib.hid hr; have HN := Lib.hid hr.len; have HF := Lib.hid hf
  clear hr hf
  go_enter Tryd.func14, Tryd.ntmps14
  go_wp2_with fail
  go_loopw [5, 7, 10] (fun v _ i wr => ∃ j : Nat, j ≤ n ∧ i = .int .i64 j ∧ Hid (wr.ownsRow w.heap.size 3 1 v j (((l.take j).map fun v => v.n).map (Value.int .i64))) ∧ Hid (Below w.heap.size w wr)) (fun _ _ i _ => n - (intOf i).toNat)
  case atStart => exact ⟨0, by omega, rfl, Lib.hid (World.ownsRow_nil _ _ _ _), Below.refl _ _⟩
  case round =>
    obtain ⟨j, hj, rfl, ho, hb⟩ := hrel
    by_cases hlt : j < n
    · obtain ⟨b, o, v, hA, hbl, hv, h1, h2, h3⟩ := HR.out.at_ hlt
      subst hA
      have g1 := (hb.out.cell (p := ⟨b, o + j * 3, none⟩) hbl).trans h1
      have g2 := (hb.out.cell (p := ⟨b, o + j * 3 + 1, none⟩) hbl).trans h2
      have g3 := (hb.out.cell (p := ⟨b, o + j * 3 + 2, none⟩) hbl).trans h3
      have hn2 := fit_at HF.out hv
      have hz := hb.out.size
      have ht : Hid ((l.take (j + 1)).map (fun v => v.n) = (l.take j).map (fun v => v.n) ++ [(fun v => v.n) v]) := by
        rw [List.take_add_one, hv, Option.toList_some, List.map_append]; exact Lib.hid rfl
      have HO2 := Lib.hid (own_below ho.out ((Below.refl wr.heap.size wr).alloc (Nat.le_refl _) (.cells #[.bool v.null, .int .i64 v.n, .string v.s] 26)))
      have HW2 := Lib.hid (hb.out.alloc hz (.cells #[.bool v.null, .int .i64 v.n, .string v.s] 26))
      clear h1 h2 h3 hv
      go_wp2_with fail
      refine (same_any _ v.n).mono ?_; rintro e w2 ⟨rfl, rfl⟩
      go_wp2_with (at_builtin; refine wpList_i64 _ rfl _ _ rfl w.heap.size _ j _ rfl (own_below HO2.out ((Below.refl _ _).alloc (Nat.le_refl _) _)) _ 1 1 [_] rfl (rd_one_at (by simp)) (by omega) (by simp; omega) ?_; intro G c w3 hown hgr hcc)
      have HOWN := Lib.hid hown; have HNB := Lib.hid (push_ HW2.out (Nat.le_refl _) HO2.out hgr)
      clear hown hgr
      go_wp2_with fail
      go_roundw
      case rel =>
        refine ⟨j + 1, by omega, by go_num, ?_, HNB⟩
        have h := HOWN.out
        rw [ht.out]
        exact Lib.hid h
      case measure => simp [intOf] <;> omega
    · obtain rfl : j = n := by omega
      obtain ⟨G, c, rfl⟩ := own_form ho.out
      go_wp2_with fail
      go_ret
      have h := ho.out
      rw [List.take_of_length_le (by rw [HN.out]; omega)] at h
      exact ⟨_, _, _, rfl, Sl.of_own h, hb.out⟩

set_option maxRecDepth 100000 in
set_option maxHeartbeats 1000000 in
theorem numbersOne_any (w : World) (A : Option Addr) (n cap : Nat) (l : List Val) (hr : Rv w A n l) (hf : ∀ v ∈ l, -9223372036854775808 ≤ v.n ∧ v.n < 9223372036854775808) (hn : n ≤ 1000000) :
    Calls Tryd.prog 11 #[.slice A n cap, .func (.func 12) #[] #[]] w (BoolsOutI w (l.map fun v => decide (v.n = 1))) := by
  have HR := Lib.hid hr; have HN := Lib.hid hr.len; have HF := Lib.hid hf
  clear hr hf
  go_enter Tryd.func11, Tryd.ntmps11
  go_wp2_with fail
  go_loopw [5, 7, 10] (fun v _ i wr => ∃ j : Nat, j ≤ n ∧ i = .int .i64 j ∧ Hid (wr.ownsRow w.heap.size 4 1 v j (((l.take j).map fun v => decide (v.n = 1)).map Value.bool)) ∧ Hid (Below w.heap.size w wr)) (fun _ _ i _ => n - (intOf i).toNat)
  case atStart => exact ⟨0, by omega, rfl, Lib.hid (World.ownsRow_nil _ _ _ _), Below.refl _ _⟩
  case round =>
    obtain ⟨j, hj, rfl, ho, hb⟩ := hrel
    by_cases hlt : j < n
    · obtain ⟨b, o, v, hA, hbl, hv, h1, h2, h3⟩ := HR.out.at_ hlt
      subst hA
      have g1 := (hb.out.cell (p := ⟨b, o + j * 3, none⟩) hbl).trans h1
      have g2 := (hb.out.cell (p := ⟨b, o + j * 3 + 1, none⟩) hbl).trans h2
      have g3 := (hb.out.cell (p := ⟨b, o + j * 3 + 2, none⟩) hbl).trans h3
      have hn2 := fit_at HF.out hv
      have hz := hb.out.size
      have ht : Hid ((l.take (j + 1)).map (fun v => decide (v.n = 1)) = (l.take j).map (fun v => decide (v.n = 1)) ++ [(fun v => decide (v.n = 1)) v]) := by
        rw [List.take_add_one, hv, Option.toList_some, List.map_append]; exact Lib.hid rfl
      have HO2 := Lib.hid (own_below ho.out ((Below.refl wr.heap.size wr).alloc (Nat.le_refl _) (.cells #[.bool v.null, .int .i64 v.n, .string v.s] 26)))
      have HW2 := Lib.hid (hb.out.alloc hz (.cells #[.bool v.null, .int .i64 v.n, .string v.s] 26))
      clear h1 h2 h3 hv
      go_wp2_with fail
      refine (one1_any _ v.n).mono ?_; rintro e w2 ⟨rfl, rfl⟩
      go_wp2_with (at_builtin; refine wpList_bool _ rfl _ _ rfl w.heap.size _ j _ rfl (own_below HO2.out ((Below.refl _ _).alloc (Nat.le_refl _) _)) _ 1 1 [_] rfl (rd_one_at (by simp)) (by omega) (by simp; omega) ?_; intro G c w3 hown hgr hcc)
      have HOWN := Lib.hid hown; have HNB := Lib.hid (push_ HW2.out (Nat.le_refl _) HO2.out hgr)
      clear hown hgr
      go_wp2_with fail
      go_roundw
      case rel =>
        refine ⟨j + 1, by omega, by go_num, ?_, HNB⟩
        have h := HOWN.out
        rw [ht.out]
        exact Lib.hid h
      case measure => simp [intOf] <;> omega
    · obtain rfl : j = n := by omega
      obtain ⟨G, c, rfl⟩ := own_form ho.out
      go_wp2_with fail
      go_ret
      have h := ho.out
      rw [List.take_of_length_le (by rw [HN.out]; omega)] at h
      exact ⟨_, _, _, rfl, Sb.of_own h, hb.out⟩
end Go.Proofs.YtbmooemlekckbaaDoor

/- Joined texts: IntN, IntRV, IntM. Each has its own head line. No condition beyond those that its theorems state. -/
import Derived.Test.YtbmooemlekckbaaGreatDoorJ39
import Derived.Test.YtbmooemlekckbaaGreatDoorJ05
import Derived.Test.YtbmooemlekckbaaGreatDoorJ14
set_option linter.unusedVariables false

/- Ints: numbers out of values; the parts of a number. -/
namespace Go.Proofs.YtbmooemlekckbaaGreatDoor
open Go.RowKit

theorem quo_parts (n : Int) : (n.tmod 1000 < 0 ∧ n.tdiv 1000 - 1 = n / 1000 ∧ n.tmod 1000 + 1000 = n % 1000) ∨ (0 ≤ n.tmod 1000 ∧ n.tdiv 1000 = n / 1000 ∧ n.tmod 1000 = n % 1000) := by
  rcases Int.lt_or_le n 0 with h | h
  · have h1 : n.tdiv 1000 = -((-n) / 1000) := by
      have := Int.neg_tdiv (-n) 1000
      rw [Int.neg_neg] at this
      rw [this, Int.tdiv_eq_ediv_of_nonneg (by omega)]
    have h2 : n.tmod 1000 = -((-n) % 1000) := by
      have := Int.neg_tmod (-n) 1000
      rw [Int.neg_neg] at this
      rw [this, Int.tmod_eq_emod_of_nonneg (by omega)]
    rw [h1, h2]
    omega
  · right
    rw [Int.tdiv_eq_ediv_of_nonneg h, Int.tmod_eq_emod_of_nonneg h]
    omega
theorem ret_i {a b : Int} (h : a = b) : Ending.returned (.int .i64 a) = .returned (.int .i64 b) := by rw [h]
set_option maxHeartbeats 400000 in
theorem whole_any (w : World) (n : Int) (hn : -9223372036854775808 ≤ n ∧ n < 9223372036854775808) :
    Calls Tryz.prog 19 #[.int .i64 n] w fun e w' => e = .returned (.int .i64 (n / 1000)) ∧ w = w' := by
  rcases quo_parts n with ⟨h1, h2, h3⟩ | ⟨h1, h2, h3⟩
  · have HQ := Lib.hid h2
    have b1 : -9223372036854776 ≤ n.tdiv 1000 := by omega
    have b2 : n.tdiv 1000 ≤ 9223372036854777 := by omega
    clear h2 h3
    go_enter Tryz.func19, Tryz.ntmps19
    go_wp2_with fail
    go_ret
    exact ⟨ret_i HQ.out, rfl⟩
  · have HQ := Lib.hid h2
    clear h2 h3
    go_enter Tryz.func19, Tryz.ntmps19
    go_wp2_with fail
    go_ret
    exact ⟨ret_i HQ.out, rfl⟩
set_option maxHeartbeats 400000 in
theorem left_any (w : World) (n : Int) (_hn : -9223372036854775808 ≤ n ∧ n < 9223372036854775808) :
    Calls Tryz.prog 20 #[.int .i64 n] w fun e w' => e = .returned (.int .i64 (n % 1000)) ∧ w = w' := by
  have hq : (n.tmod 1000 + 1000) % 1000 = n % 1000 := by
    rcases quo_parts n with ⟨h1, h2, h3⟩ | ⟨h1, h2, h3⟩ <;> omega
  have b1 : -1000 ≤ n.tmod 1000 := by rcases quo_parts n with ⟨h1, h2, h3⟩ | ⟨h1, h2, h3⟩ <;> omega
  have b2 : n.tmod 1000 ≤ 1000 := by rcases quo_parts n with ⟨h1, h2, h3⟩ | ⟨h1, h2, h3⟩ <;> omega
  have HQ := Lib.hid hq
  clear hq
  go_enter Tryz.func20, Tryz.ntmps20
  go_wp2_with fail
  go_ret
  exact ⟨ret_i HQ.out, rfl⟩
set_option maxHeartbeats 400000 in
theorem same_any (w : World) (n : Int) :
    Calls Tryz.prog 21 #[.int .i64 n] w fun e w' => e = .returned (.int .i64 n) ∧ w = w' := by
  go_enter Tryz.func21, Tryz.ntmps21
  go_wp2_with fail
  go_ret
  exact ⟨rfl, rfl⟩
set_option maxHeartbeats 400000 in
theorem one1_any (w : World) (n : Int) :
    Calls Tryz.prog 16 #[.int .i64 n] w fun e w' => e = .returned (.bool (decide (n = 1))) ∧ w = w' := by
  by_cases h : n = 1
  · subst h
    go_enter Tryz.func16, Tryz.ntmps16
    go_wp2_with fail
    go_ret
    exact ⟨rfl, rfl⟩
  · have h1 : (n == 1) = false := by simp [h]
    have HD := Lib.hid (decide_eq_false h)
    clear h
    go_enter Tryz.func16, Tryz.ntmps16
    go_wp2_with fail
    go_ret
    exact ⟨ret_bool HD.out.symm, rfl⟩
theorem rd_one_at {w : World} {x : Value} {t : TypeId} {g : Nat} (h : g = w.heap.size) : Rd (w.alloc (.cells #[x] t)) 1 (some ⟨g, 0, none⟩) 1 [x] := by subst h; exact Rd.one _ _ _
def IntsOutI (w : World) (l : List Int) (e : Ending) (w' : World) : Prop :=
  ∃ G n c, e = .returned (.slice G n c) ∧ Sl w' .i64 G n c l ∧ Below w.heap.size w w'
def BoolsOutI (w : World) (l : List Bool) (e : Ending) (w' : World) : Prop :=
  ∃ G n c, e = .returned (.slice G n c) ∧ Sb w' G n c l ∧ Below w.heap.size w w'
theorem fit_at {l : List Val} (h : ∀ v ∈ l, -9223372036854775808 ≤ v.n ∧ v.n < 9223372036854775808) {j : Nat} {v : Val} (hv : l[j]? = some v) : -9223372036854775808 ≤ v.n ∧ v.n < 9223372036854775808 := h v (List.mem_of_getElem? hv)

set_option maxRecDepth 100000 in
set_option maxHeartbeats 1000000 in
theorem numbersWhole_any (w : World) (A : Option Addr) (n cap : Nat) (l : List Val) (hr : Rv w A n l) (hf : ∀ v ∈ l, -9223372036854775808 ≤ v.n ∧ v.n < 9223372036854775808) (hn : n ≤ 1000000) :
    Calls Tryz.prog 18 #[.slice A n cap, .func (.func 19) #[] #[]] w (IntsOutI w (l.map fun v => v.n / 1000)) := by
  have HR := Lib.hid hr; have HN := Lib.hid hr.len; have HF := Lib.hid hf
  clear hr hf
  go_enter Tryz.func18, Tryz.ntmps18
  go_wp2_with fail
  go_loopw [5, 7, 10] (fun v _ i wr => ∃ j : Nat, j ≤ n ∧ i = .int .i64 j ∧ Hid (wr.ownsRow w.heap.size 3 1 v j (((l.take j).map fun v => v.n / 1000).map (Value.int .i64))) ∧ Hid (Below w.heap.size w wr)) (fun _ _ i _ => n - (intOf i).toNat)
  case atStart => exact ⟨0, by omega, rfl, Lib.hid (World.ownsRow_nil _ _ _ _), Below.refl _ _⟩
  case round =>
    obtain ⟨j, hj, rfl, ho, hb⟩ := hrel
    by_cases hlt : j < n
    · obtain ⟨b, o, v, hA, hbl, hv, h1, h2, h3⟩ := HR.out.at_ hlt
      subst hA
      have g1 := (hb.out.cell (p := ⟨b, o + j * 3, none⟩) hbl).trans h1
      have g2 := (hb.out.cell (p := ⟨b, o + j * 3 + 1, none⟩) hbl).trans h2
      have g3 := (hb.out.cell (p := ⟨b, o + j * 3 + 2, none⟩) hbl).trans h3
      have hn2 := fit_at HF.out hv
      have hz := hb.out.size
      have ht : Hid ((l.take (j + 1)).map (fun v => v.n / 1000) = (l.take j).map (fun v => v.n / 1000) ++ [(fun v => v.n / 1000) v]) := by
        rw [List.take_add_one, hv, Option.toList_some, List.map_append]; exact Lib.hid rfl
      have HO2 := Lib.hid (own_below ho.out ((Below.refl wr.heap.size wr).alloc (Nat.le_refl _) (.cells #[.bool v.null, .int .i64 v.n, .string v.s] 35)))
      have HW2 := Lib.hid (hb.out.alloc hz (.cells #[.bool v.null, .int .i64 v.n, .string v.s] 35))
      clear h1 h2 h3 hv
      go_wp2_with fail
      refine (whole_any _ v.n hn2).mono ?_; rintro e w2 ⟨rfl, rfl⟩
      go_wp2_with (at_builtin; refine wpList_i64 _ rfl _ _ rfl w.heap.size _ j _ rfl (own_below HO2.out ((Below.refl _ _).alloc (Nat.le_refl _) _)) _ 1 1 [_] rfl (rd_one_at (by simp)) (by omega) (by simp; omega) ?_; intro G c w3 hown hgr hcc)
      have HOWN := Lib.hid hown; have HNB := Lib.hid (push_ HW2.out (Nat.le_refl _) HO2.out hgr)
      clear hown hgr
      go_wp2_with fail
      go_roundw
      case rel =>
        refine ⟨j + 1, by omega, by go_num, ?_, HNB⟩
        have h := HOWN.out
        rw [ht.out]
        exact Lib.hid h
      case measure => simp [intOf] <;> omega
    · obtain rfl : j = n := by omega
      obtain ⟨G, c, rfl⟩ := own_form ho.out
      go_wp2_with fail
      go_ret
      have h := ho.out
      rw [List.take_of_length_le (by rw [HN.out]; omega)] at h
      exact ⟨_, _, _, rfl, Sl.of_own h, hb.out⟩

set_option maxRecDepth 100000 in
set_option maxHeartbeats 1000000 in
theorem numbersLeft_any (w : World) (A : Option Addr) (n cap : Nat) (l : List Val) (hr : Rv w A n l) (hf : ∀ v ∈ l, -9223372036854775808 ≤ v.n ∧ v.n < 9223372036854775808) (hn : n ≤ 1000000) :
    Calls Tryz.prog 18 #[.slice A n cap, .func (.func 20) #[] #[]] w (IntsOutI w (l.map fun v => v.n % 1000)) := by
  have HR := Lib.hid hr; have HN := Lib.hid hr.len; have HF := Lib.hid hf
  clear hr hf
  go_enter Tryz.func18, Tryz.ntmps18
  go_wp2_with fail
  go_loopw [5, 7, 10] (fun v _ i wr => ∃ j : Nat, j ≤ n ∧ i = .int .i64 j ∧ Hid (wr.ownsRow w.heap.size 3 1 v j (((l.take j).map fun v => v.n % 1000).map (Value.int .i64))) ∧ Hid (Below w.heap.size w wr)) (fun _ _ i _ => n - (intOf i).toNat)
  case atStart => exact ⟨0, by omega, rfl, Lib.hid (World.ownsRow_nil _ _ _ _), Below.refl _ _⟩
  case round =>
    obtain ⟨j, hj, rfl, ho, hb⟩ := hrel
    by_cases hlt : j < n
    · obtain ⟨b, o, v, hA, hbl, hv, h1, h2, h3⟩ := HR.out.at_ hlt
      subst hA
      have g1 := (hb.out.cell (p := ⟨b, o + j * 3, none⟩) hbl).trans h1
      have g2 := (hb.out.cell (p := ⟨b, o + j * 3 + 1, none⟩) hbl).trans h2
      have g3 := (hb.out.cell (p := ⟨b, o + j * 3 + 2, none⟩) hbl).trans h3
      have hn2 := fit_at HF.out hv
      have hz := hb.out.size
      have ht : Hid ((l.take (j + 1)).map (fun v => v.n % 1000) = (l.take j).map (fun v => v.n % 1000) ++ [(fun v => v.n % 1000) v]) := by
        rw [List.take_add_one, hv, Option.toList_some, List.map_append]; exact Lib.hid rfl
      have HO2 := Lib.hid (own_below ho.out ((Below.refl wr.heap.size wr).alloc (Nat.le_refl _) (.cells #[.bool v.null, .int .i64 v.n, .string v.s] 35)))
      have HW2 := Lib.hid (hb.out.alloc hz (.cells #[.bool v.null, .int .i64 v.n, .string v.s] 35))
      clear h1 h2 h3 hv
      go_wp2_with fail
      refine (left_any _ v.n hn2).mono ?_; rintro e w2 ⟨rfl, rfl⟩
      go_wp2_with (at_builtin; refine wpList_i64 _ rfl _ _ rfl w.heap.size _ j _ rfl (own_below HO2.out ((Below.refl _ _).alloc (Nat.le_refl _) _)) _ 1 1 [_] rfl (rd_one_at (by simp)) (by omega) (by simp; omega) ?_; intro G c w3 hown hgr hcc)
      have HOWN := Lib.hid hown; have HNB := Lib.hid (push_ HW2.out (Nat.le_refl _) HO2.out hgr)
      clear hown hgr
      go_wp2_with fail
      go_roundw
      case rel =>
        refine ⟨j + 1, by omega, by go_num, ?_, HNB⟩
        have h := HOWN.out
        rw [ht.out]
        exact Lib.hid h
      case measure => simp [intOf] <;> omega
    · obtain rfl : j = n := by omega
      obtain ⟨G, c, rfl⟩ := own_form ho.out
      go_wp2_with fail
      go_ret
      have h := ho.out
      rw [List.take_of_length_le (by rw [HN.out]; omega)] at h
      exact ⟨_, _, _, rfl, Sl.of_own h, hb.out⟩

set_option maxRecDepth 100000 in
set_option maxHeartbeats 1000000 in
theorem numbersSame_any (w : World) (A : Option Addr) (n cap : Nat) (l : List Val) (hr : Rv w A n l) (hf : ∀ v ∈ l, -9223372036854775808 ≤ v.n ∧ v.n < 9223372036854775808) (hn : n ≤ 1000000) :
    Calls Tryz.prog 18 #[.slice A n cap, .func (.func 21) #[] #[]] w (IntsOutI w (l.map fun v => v.n)) := by
  have HR := Lib.hid hr; have HN := Lib.hid hr.len; have HF := Lib.hid hf
  clear hr hf
  go_enter Tryz.func18, Tryz.ntmps18
  go_wp2_with fail
  go_loopw [5, 7, 10] (fun v _ i wr => ∃ j : Nat, j ≤ n ∧ i = .int .i64 j ∧ Hid (wr.ownsRow w.heap.size 3 1 v j (((l.take j).map fun v => v.n).map (Value.int .i64))) ∧ Hid (Below w.heap.size w wr)) (fun _ _ i _ => n - (intOf i).toNat)
  case atStart => exact ⟨0, by omega, rfl, Lib.hid (World.ownsRow_nil _ _ _ _), Below.refl _ _⟩
  case round =>
    obtain ⟨j, hj, rfl, ho, hb⟩ := hrel
    by_cases hlt : j < n
    · obtain ⟨b, o, v, hA, hbl, hv, h1, h2, h3⟩ := HR.out.at_ hlt
      subst hA
      have g1 := (hb.out.cell (p := ⟨b, o + j * 3, none⟩) hbl).trans h1
      have g2 := (hb.out.cell (p := ⟨b, o + j * 3 + 1, none⟩) hbl).trans h2
      have g3 := (hb.out.cell (p := ⟨b, o + j * 3 + 2, none⟩) hbl).trans h3
      have hn2 := fit_at HF.out hv
      have hz := hb.out.size
      have ht : Hid ((l.take (j + 1)).map (fun v => v.n) = (l.take j).map (fun v => v.n) ++ [(fun v => v.n) v]) := by
        rw [List.take_add_one, hv, Option.toList_some, List.map_append]; exact Lib.hid rfl
      have HO2 := Lib.hid (own_below ho.out ((Below.refl wr.heap.size wr).alloc (Nat.le_refl _) (.cells #[.bool v.null, .int .i64 v.n, .string v.s] 35)))
      have HW2 := Lib.hid (hb.out.alloc hz (.cells #[.bool v.null, .int .i64 v.n, .string v.s] 35))
      clear h1 h2 h3 hv
      go_wp2_with fail
      refine (same_any _ v.n).mono ?_; rintro e w2 ⟨rfl, rfl⟩
      go_wp2_with (at_builtin; refine wpList_i64 _ rfl _ _ rfl w.heap.size _ j _ rfl (own_below HO2.out ((Below.refl _ _).alloc (Nat.le_refl _) _)) _ 1 1 [_] rfl (rd_one_at (by simp)) (by omega) (by simp; omega) ?_; intro G c w3 hown hgr hcc)
      have HOWN := Lib.hid hown; have HNB := Lib.hid (push_ HW2.out (Nat.le_refl _) HO2.out hgr)
      clear hown hgr
      go_wp2_with fail
      go_roundw
      case rel =>
        refine ⟨j + 1, by omega, by go_num, ?_, HNB⟩
        have h := HOWN.out
        rw [ht.out]
        exact Lib.hid h
      case measure => simp [intOf] <;> omega
    · obtain rfl : j = n := by omega
      obtain ⟨G, c, rfl⟩ := own_form ho.out
      go_wp2_with fail
      go_ret
      have h := ho.out
      rw [List.take_of_length_le (by rw [HN.out]; omega)] at h
      exact ⟨_, _, _, rfl, Sl.of_own h, hb.out⟩

set_option maxRecDepth 100000 in
set_option maxHeartbeats 1000000 in
theorem numbersOne_any (w : World) (A : Option Addr) (n cap : Nat) (l : List Val) (hr : Rv w A n l) (hf : ∀ v ∈ l, -9223372036854775808 ≤ v.n ∧ v.n < 9223372036854775808) (hn : n ≤ 1000000) :
    Calls Tryz.prog 15 #[.slice A n cap, .func (.func 16) #[] #[]] w (BoolsOutI w (l.map fun v => decide (v.n = 1))) := by
  have HR := Lib.hid hr; have HN := Lib.hid hr.len; have HF := Lib.hid hf
  clear hr hf
  go_enter Tryz.func15, Tryz.ntmps15
  go_wp2_with fail
  go_loopw [5, 7, 10] (fun v _ i wr => ∃ j : Nat, j ≤ n ∧ i = .int .i64 j ∧ Hid (wr.ownsRow w.heap.size 4 1 v j (((l.take j).map fun v => decide (v.n = 1)).map Value.bool)) ∧ Hid (Below w.heap.size w wr)) (fun _ _ i _ => n - (intOf i).toNat)
  case atStart => exact ⟨0, by omega, rfl, Lib.hid (World.ownsRow_nil _ _ _ _), Below.refl _ _⟩
  case round =>
    obtain ⟨j, hj, rfl, ho, hb⟩ := hrel
    by_cases hlt : j < n
    · obtain ⟨b, o, v, hA, hbl, hv, h1, h2, h3⟩ := HR.out.at_ hlt
      subst hA
      have g1 := (hb.out.cell (p := ⟨b, o + j * 3, none⟩) hbl).trans h1
      have g2 := (hb.out.cell (p := ⟨b, o + j * 3 + 1, none⟩) hbl).trans h2
      have g3 := (hb.out.cell (p := ⟨b, o + j * 3 + 2, none⟩) hbl).trans h3
      have hn2 := fit_at HF.out hv
      have hz := hb.out.size
      have ht : Hid ((l.take (j + 1)).map (fun v => decide (v.n = 1)) = (l.take j).map (fun v => decide (v.n = 1)) ++ [(fun v => decide (v.n = 1)) v]) := by
        rw [List.take_add_one, hv, Option.toList_some, List.map_append]; exact Lib.hid rfl
      have HO2 := Lib.hid (own_below ho.out ((Below.refl wr.heap.size wr).alloc (Nat.le_refl _) (.cells #[.bool v.null, .int .i64 v.n, .string v.s] 35)))
      have HW2 := Lib.hid (hb.out.alloc hz (.cells #[.bool v.null, .int .i64 v.n, .string v.s] 35))
      clear h1 h2 h3 hv
      go_wp2_with fail
      refine (one1_any _ v.n).mono ?_; rintro e w2 ⟨rfl, rfl⟩
      go_wp2_with (at_builtin; refine wpList_bool _ rfl _ _ rfl w.heap.size _ j _ rfl (own_below HO2.out ((Below.refl _ _).alloc (Nat.le_refl _) _)) _ 1 1 [_] rfl (rd_one_at (by simp)) (by omega) (by simp; omega) ?_; intro G c w3 hown hgr hcc)
      have HOWN := Lib.hid hown; have HNB := Lib.hid (push_ HW2.out (Nat.le_refl _) HO2.out hgr)
      clear hown hgr
      go_wp2_with fail
      go_roundw
      case rel =>
        refine ⟨j + 1, by omega, by go_num, ?_, HNB⟩
        have h := HOWN.out
        rw [ht.out]
        exact Lib.hid h
      case measure => simp [intOf] <;> omega
    · obtain rfl : j = n := by omega
      obtain ⟨G, c, rfl⟩ := own_form ho.out
      go_wp2_with fail
      go_ret
      have h := ho.out
      rw [List.take_of_length_le (by rw [HN.out]; omega)] at h
      exact ⟨_, _, _, rfl, Sb.of_own h, hb.out⟩
end Go.Proofs.YtbmooemlekckbaaGreatDoor

/- The references: which values may be of a kind of numbers; the parts of a number. -/
namespace Go.Proofs.YtbmooemlekckbaaGreatDoor
open Go.RowKit

set_option maxHeartbeats 400000 in
theorem refNumber_any (w : World) (k : Int) :
    Calls Tryz.prog 22 #[.int .i64 k] w fun e w' => e = .returned (.bool (isNum k)) ∧ w = w' := by
  have HD := Lib.hid (show isNum k = (decide (1 ≤ k) && decide (k ≤ 5)) by unfold isNum; rw [Bool.decide_and])
  by_cases h1 : 1 ≤ k
  · by_cases h5 : k ≤ 5
    · go_enter Tryz.func22, Tryz.ntmps22
      go_wp2_with fail
      go_ret
      exact ⟨ret_bool (by rw [HD.out]; simp [h1, h5]), rfl⟩
    · go_enter Tryz.func22, Tryz.ntmps22
      go_wp2_with fail
      go_ret
      exact ⟨ret_bool (by rw [HD.out]; simp [h5]), rfl⟩
  · have t1 : decide (1 ≤ k) = false := decide_eq_false h1
    go_enter Tryz.func22, Tryz.ntmps22
    go_wp2_with fail
    go_ret
    exact ⟨ret_bool (by rw [HD.out, t1]; rfl), rfl⟩
def MayOut (w : World) (k : Int) (v : Val) (e : Ending) (w' : World) : Prop :=
  ∃ b, e = .returned (.bool b) ∧ Hid (v.null = false → b = okI k v) ∧ Below w.heap.size w w'

set_option maxRecDepth 100000 in
set_option maxHeartbeats 2000000 in
theorem refMay_any (w : World) (k : Int) (hk : isNum k = true) (v : Val) :
    Calls Tryz.prog 23 #[.int .i64 k, .agg #[.bool v.null, .int .i64 v.n, .string v.s]] w (MayOut w k v) := by
  have hok : v.null = false → okI k v = (v.s.toList.isEmpty && (decide (k ≠ 1) || (decide (v.n = 0) || decide (v.n = 1)))) := by intro h; unfold okI; rw [h]; rfl
  have HOK := Lib.hid hok
  clear hok
  rcases num_cases hk with rfl | rfl | rfl | rfl | rfl
  all_goals
    clear hk
    cases hv : v.null
    · have HV := Lib.hid hv
      cases hs : v.s.toList.isEmpty
      · go_enter Tryz.func23, Tryz.ntmps23
        go_wp2_with fail
        all_goals
          go_ret
          exact ⟨_, rfl, Lib.hid (fun h => by rw [HOK.out h, hs]; rfl), (Below.refl w.heap.size w).alloc (Nat.le_refl _) _⟩
      · by_cases h0 : v.n = 0
        · have t0 : (v.n == 0) = true := by simp [h0]
          have HT := Lib.hid h0
          clear h0
          go_enter Tryz.func23, Tryz.ntmps23
          go_wp2_with fail
          all_goals
            go_ret
            exact ⟨_, rfl, Lib.hid (fun h => by rw [HOK.out h, hs, HT.out]; rfl), (Below.refl w.heap.size w).alloc (Nat.le_refl _) _⟩
        · have t0 : (v.n == 0) = false := by simp [h0]
          by_cases h1 : v.n = 1
          · have t1 : (v.n == 1) = true := by simp [h1]
            have HT := Lib.hid h1
            clear h0 h1
            go_enter Tryz.func23, Tryz.ntmps23
            go_wp2_with fail
            all_goals
              go_ret
              exact ⟨_, rfl, Lib.hid (fun h => by rw [HOK.out h, hs, HT.out]; rfl), (Below.refl w.heap.size w).alloc (Nat.le_refl _) _⟩
          · have t1 : (v.n == 1) = false := by simp [h1]
            have HT := Lib.hid (And.intro (decide_eq_false h0) (decide_eq_false h1))
            clear h0 h1
            go_enter Tryz.func23, Tryz.ntmps23
            go_wp2_with fail
            all_goals
              go_ret
              exact ⟨_, rfl, Lib.hid (fun h => by rw [HOK.out h, hs, HT.out.1, HT.out.2]; rfl), (Below.refl w.heap.size w).alloc (Nat.le_refl _) _⟩
    · have HV := Lib.hid hv
      cases hs : v.s.toList.isEmpty
      all_goals
        by_cases h0 : v.n = 0
        · have t0 : (v.n == 0) = true := by simp [h0]
          clear h0
          go_enter Tryz.func23, Tryz.ntmps23
          go_wp2_with fail
          all_goals
            go_ret
            exact ⟨_, rfl, Lib.hid (fun h => by rw [HV.out] at h; cases h), (Below.refl w.heap.size w).alloc (Nat.le_refl _) _⟩
        · have t0 : (v.n == 0) = false := by simp [h0]
          clear h0
          go_enter Tryz.func23, Tryz.ntmps23
          go_wp2_with fail
          all_goals
            go_ret
            exact ⟨_, rfl, Lib.hid (fun h => by rw [HV.out] at h; cases h), (Below.refl w.heap.size w).alloc (Nat.le_refl _) _⟩
theorem ret_ii {a b c d : Int} (h : a = b) (h2 : c = d) : Ending.returned (.tuple #[.int .i64 a, .int .i64 c]) = .returned (.tuple #[.int .i64 b, .int .i64 d]) := by rw [h, h2]
set_option maxHeartbeats 400000 in
theorem Parts_any (w : World) (n : Int) (hn : -9223372036854775808 ≤ n ∧ n < 9223372036854775808) :
    Calls Tryz.prog 24 #[.int .i64 n] w fun e w' => e = .returned (.tuple #[.int .i64 (n / 1000), .int .i64 (n % 1000)]) ∧ w = w' := by
  rcases quo_parts n with ⟨h1, h2, h3⟩ | ⟨h1, h2, h3⟩
  · have b1 : -9223372036854776 ≤ n.tdiv 1000 := by omega
    have b2 : n.tdiv 1000 ≤ 9223372036854777 := by omega
    have b3 : -1000 ≤ n.tmod 1000 := by omega
    have HQ := Lib.hid h2; have HM := Lib.hid h3
    clear h2 h3
    go_enter Tryz.func24, Tryz.ntmps24
    go_wp2_with fail
    go_ret2
    exact ⟨ret_ii HQ.out HM.out, rfl⟩
  · have HQ := Lib.hid h2; have HM := Lib.hid h3
    clear h2 h3
    go_enter Tryz.func24, Tryz.ntmps24
    go_wp2_with fail
    go_ret2
    exact ⟨ret_ii HQ.out HM.out, rfl⟩
end Go.Proofs.YtbmooemlekckbaaGreatDoor

/- ints.may, ints.made and the reference's Whole. -/
namespace Go.Proofs.YtbmooemlekckbaaGreatDoor
open Go.RowKit

theorem may_is {q r : Int} (b : Bool) (h : b = true ↔ (r ≤ 999 ∧ -9223372036854775808 ≤ 1000 * q + r ∧ 1000 * q + r ≤ 9223372036854775807)) : b = mayT q r := by
  rw [Bool.eq_iff_iff, h]
  unfold mayT
  simp
set_option maxRecDepth 100000 in
set_option maxHeartbeats 1000000 in
theorem may_any (w : World) (q r : Int) (hr : 0 ≤ r) :
    Calls Tryz.prog 42 #[.int .i64 q, .int .i64 r] w fun e w' => e = .returned (.bool (mayT q r)) ∧ w = w' := by
  have l1 : (-9223372036854775808 : Int) % 1000 = 192 := by decide
  have l2 : (9223372036854775807 : Int) % 1000 = 807 := by decide
  have L1 := Lib.hid l1; have L2 := Lib.hid l2
  clear l1 l2
  by_cases h1 : 1000 ≤ r
  · have HM := Lib.hid (may_is (q := q) (r := r) false (by constructor <;> intro h; cases h; omega))
    go_enter Tryz.func42, Tryz.ntmps42
    go_wp2_with fail
    go_ret
    exact ⟨ret_bool HM.out, rfl⟩
  · by_cases h2 : q < -9223372036854776
    · have HM := Lib.hid (may_is (q := q) (r := r) false (by constructor <;> intro h; cases h; omega))
      go_enter Tryz.func42, Tryz.ntmps42
      go_wp2_with fail
      go_ret
      exact ⟨ret_bool HM.out, rfl⟩
    · by_cases h3 : 9223372036854775 < q
      · have HM := Lib.hid (may_is (q := q) (r := r) false (by constructor <;> intro h; cases h; omega))
        go_enter Tryz.func42, Tryz.ntmps42
        go_wp2_with fail
        go_ret
        exact ⟨ret_bool HM.out, rfl⟩
      · by_cases h4 : q = -9223372036854776
        · subst h4
          by_cases h5 : 192 ≤ r
          · have HM := Lib.hid (may_is (q := -9223372036854776) (r := r) true (by constructor <;> intro h; omega; rfl))
            go_enter Tryz.func42, Tryz.ntmps42
            go_wp2_with fail
            refine (left_any _ _ (by omega)).mono ?_; rintro e w' ⟨rfl, rfl⟩
            rw [L1.out]
            go_wp2_with fail
            go_ret
            exact ⟨ret_bool (by first | exact HM.out | (rw [← HM.out]; exact decide_eq_true h5)), rfl⟩
          · have HM := Lib.hid (may_is (q := -9223372036854776) (r := r) false (by constructor <;> intro h; cases h; omega))
            go_enter Tryz.func42, Tryz.ntmps42
            go_wp2_with fail
            refine (left_any _ _ (by omega)).mono ?_; rintro e w' ⟨rfl, rfl⟩
            rw [L1.out]
            go_wp2_with fail
            go_ret
            exact ⟨ret_bool (by first | exact HM.out | (rw [← HM.out]; exact decide_eq_false (by omega))), rfl⟩
        · have t4 : (q == -9223372036854776) = false := by simp [h4]
          by_cases h6 : q = 9223372036854775
          · subst h6
            by_cases h5 : r ≤ 807
            · have HM := Lib.hid (may_is (q := 9223372036854775) (r := r) true (by constructor <;> intro h; omega; rfl))
              go_enter Tryz.func42, Tryz.ntmps42
              go_wp2_with fail
              refine (left_any _ _ (by omega)).mono ?_; rintro e w' ⟨rfl, rfl⟩
              rw [L2.out]
              go_wp2_with fail
              go_ret
              exact ⟨ret_bool (by first | exact HM.out | (rw [← HM.out]; exact decide_eq_true h5)), rfl⟩
            · have HM := Lib.hid (may_is (q := 9223372036854775) (r := r) false (by constructor <;> intro h; cases h; omega))
              go_enter Tryz.func42, Tryz.ntmps42
              go_wp2_with fail
              refine (left_any _ _ (by omega)).mono ?_; rintro e w' ⟨rfl, rfl⟩
              rw [L2.out]
              go_wp2_with fail
              go_ret
              exact ⟨ret_bool (by first | exact HM.out | (rw [← HM.out]; exact decide_eq_false (by omega))), rfl⟩
          · have t6 : (q == 9223372036854775) = false := by simp [h6]
            have HM := Lib.hid (may_is (q := q) (r := r) true (by constructor <;> intro h; omega; rfl))
            clear h4 h6
            go_enter Tryz.func42, Tryz.ntmps42
            go_wp2_with fail
            go_ret
            exact ⟨ret_bool HM.out, rfl⟩
theorem may_parts {q r : Int} (h : mayT q r = true) : r ≤ 999 ∧ -9223372036854775808 ≤ 1000 * q + r ∧ 1000 * q + r ≤ 9223372036854775807 := by
  unfold mayT at h
  simpa using h
set_option maxHeartbeats 400000 in
theorem made_any (w : World) (q r : Int) (hr : 0 ≤ r) (h : mayT q r = true) :
    Calls Tryz.prog 43 #[.int .i64 q, .int .i64 r] w fun e w' => e = .returned (.int .i64 (1000 * q + r)) ∧ w = w' := by
  obtain ⟨h1, h2, h3⟩ := may_parts h
  clear h
  by_cases hq : q < 0
  all_goals
    go_enter Tryz.func43, Tryz.ntmps43
    go_wp2_with fail
    go_ret
    exact ⟨ret_i (by omega), rfl⟩
set_option maxHeartbeats 400000 in
theorem Whole_any (w : World) (q r : Int) (hr : 0 ≤ r) (h : mayT q r = true) :
    Calls Tryz.prog 31 #[.int .i64 q, .int .i64 r] w fun e w' => e = .returned (.int .i64 (1000 * q + r)) ∧ w = w' := by
  obtain ⟨h1, h2, h3⟩ := may_parts h
  clear h
  by_cases hq : q < 0
  all_goals
    go_enter Tryz.func31, Tryz.ntmps31
    go_wp2_with fail
    go_ret
    exact ⟨ret_i (by omega), rfl⟩
end Go.Proofs.YtbmooemlekckbaaGreatDoor

/- Joined texts: TxR. Each has its own head line. No condition beyond those that its theorems state. -/
import Derived.Deep.LoopGhost
import Derived.BigQuiet
import Derived.Test.YtmejoococajikaaGreatJ36
import Derived.Test.YtmejoococajikaaGreatJ05
set_option linter.unusedVariables false

/- The reference of texts: place, Words. -/
namespace Go.Proofs.YtmejoococajikaaGreat
open Go.RowKit

theorem bdN {B : Nat} {a w : World} (h : Below B a w) (q : Nat) : Below B a (w.drewN q) := ⟨h.os, h.tape, h.output, h.size, h.block⟩
theorem str_beqT (a b : ByteArray) : (a.toList == b.toList) = decide (a = b) := by
  rw [Bool.eq_iff_iff]
  simp only [beq_iff_eq, decide_eq_true_eq, ByteArray.toList_eq]
  exact ⟨fun h => key_inj h, fun h => by rw [h]⟩
set_option maxRecDepth 100000 in
set_option maxHeartbeats 1000000 in
theorem place_any (w : World) (A : Option Addr) (n c : Nat) (l : List ByteArray) (hr : Rs w A n l) (hn : n ≤ 1000000) (s : ByteArray) :
    Calls Tryz.prog 23 #[.slice A n c, .string s] w fun e w' => (∃ r, e = .returned (.int .i64 r) ∧ PlaceAt l s r) ∧ w' = w := by
  have HL := Lib.hid hr.len
  have HALL := Lib.hid (fun h0 => hr.all h0)
  clear hr
  go_enter Tryz.func23, Tryz.ntmps23
  go_wp2_with fail
  go_loopg [5] n (fun gg v wr => ∃ j : Nat, v = .int .i64 j ∧ j ≤ n ∧ n - j ≤ gg ∧ Hid (s ∉ l.take j) ∧ wr = w)
  case atStart => exact ⟨0, rfl, by omega, by omega, Lib.hid (by simp), rfl⟩
  case round =>
    obtain ⟨j, rfl, hjN, hgg, hs, rfl⟩ := hrel
    by_cases hlt : j < n
    · have t1 : decide (j < n) = true := decide_eq_true hlt
      obtain ⟨b, o, rfl, hb, hc⟩ := HALL.out (by omega)
      have hj : j < l.length := by rw [HL.out]; exact hlt
      have k1 := hc j hj
      obtain ⟨x, hx⟩ : ∃ x, x = l[j] := ⟨_, rfl⟩
      rw [← hx] at k1
      have HX := Lib.hid hx
      clear hx hc
      by_cases he : x = s
      · have HP : Hid (PlaceAt l s (j : Int)) := Lib.hid (.inl ⟨j, rfl, by rw [List.getElem?_eq_getElem hj, ← HX.out, he]⟩)
        have e1 : (x.toList == s.toList) = true := by rw [str_beqT]; exact decide_eq_true he
        clear he
        go_wp2_with fail
        go_ret
        exact ⟨⟨_, rfl, HP.out⟩, rfl⟩
      · have HS : Hid (s ∉ l.take (j + 1)) := Lib.hid (by
          rw [List.take_succ_eq_append_getElem hj, List.mem_append, ← HX.out]
          rintro (h | h)
          · exact hs.out h
          · exact he (List.mem_singleton.1 h).symm)
        have e1 : (x.toList == s.toList) = false := by rw [str_beqT]; exact decide_eq_false he
        clear he
        go_wp2_with fail
        go_roundg (n - (j + 1))
        case measure => omega
        case rel => exact ⟨j + 1, by go_num, by omega, by omega, HS, rfl⟩
    · have t1 : decide (j < n) = false := decide_eq_false hlt
      have HP : Hid (PlaceAt l s (-1)) := Lib.hid (.inr ⟨rfl, by
        have h := hs.out
        rwa [List.take_of_length_le (by rw [HL.out]; omega)] at h⟩)
      go_wp2_with fail
      go_ret
      exact ⟨⟨_, rfl, HP.out⟩, rfl⟩
theorem less_beforeT : ∀ (a b : List UInt8), Op.bytesLess a b = bytesBefore a b
  | [], [] => rfl
  | [], _ :: _ => rfl
  | _ :: _, [] => rfl
  | x :: r, y :: s => by
    have ih := less_beforeT r s
    unfold Op.bytesLess bytesBefore
    rw [ih]
theorem less_ltT (a b : ByteArray) : Op.bytesLess a.toList b.toList = decide (a.data.toList < b.data.toList) := by
  rw [less_beforeT, ByteArray.toList_eq, ByteArray.toList_eq, Bool.eq_iff_iff, before_lt, decide_eq_true_eq]
set_option maxRecDepth 100000 in
set_option maxHeartbeats 4000000 in
theorem rWords_own (w : World) (A : Option Addr) (n c : Nat) (l : List ByteArray) (hr : Rs w A n l) (hn : n ≤ 1000000) :
    Calls Tryz.prog 13 #[.slice A n c] w fun e w' => ∃ G m c' W, e = .returned (.slice G m c') ∧ w'.ownsRow w.heap.size 9 1 (.slice G m c') m (W.map Value.string) ∧ IsWords W l ∧ m ≤ n ∧ Below w.heap.size w w' := by
  have HL := Lib.hid hr.len
  have HALL := Lib.hid (fun h0 => hr.all h0)
  clear hr
  have HO := Lib.hid (own_empty w 9 1)
  have HB := Lib.hid ((Below.refl w.heap.size w).alloc (Nat.le_refl _) (.cells #[] 9))
  go_enter Tryz.func13, Tryz.ntmps13
  go_wp2_with fail
  go_loopg [3, 4] n (fun gg v3 v wr => ∃ (j m : Nat) (O : List ByteArray), v = .int .i64 j ∧ j ≤ n ∧ n - j ≤ gg ∧ m ≤ j ∧ Hid (wr.ownsRow w.heap.size 9 1 v3 m (O.map Value.string)) ∧ Hid (Rising O) ∧ Hid (∀ x, x ∈ O ↔ x ∈ l.take j) ∧ Hid (Below w.heap.size w wr))
  case atStart => exact ⟨0, 0, [], rfl, by omega, by omega, by omega, HO, Lib.hid List.Pairwise.nil, Lib.hid (by simp), HB⟩
  case round =>
    obtain ⟨j, m, O, rfl, hjN, hgg, hmj, ho, hup, hmem, hb⟩ := hrel
    obtain ⟨G, cG, hG⟩ := own_form ho.out
    subst hG
    have hz := hb.out.size
    have hOl : O.length = m := by have := ho.out.1; simpa using this
    by_cases hlt : j < n
    · have t1 : decide (j < n) = true := decide_eq_true hlt
      obtain ⟨b, o, rfl, hbb, hc⟩ := HALL.out (by omega)
      have hj : j < l.length := by rw [HL.out]; exact hlt
      have kc := hc j hj
      have HKC : Hid (∀ v : World, Below w.heap.size w v → v.cell? ⟨b, o + j, none⟩ = some (.string l[j])) := Lib.hid fun v hv => (hv.cell (p := ⟨b, o + j, none⟩) hbb).trans kc
      have k1 := HKC.out wr hb.out
      have HTK := Lib.hid (show l.take (j + 1) = l.take j ++ [l[j]] from List.take_succ_eq_append_getElem hj)
      clear kc
      generalize l[j] = x at k1 HTK HKC
      have HOB := Lib.hid (Rs.one wr x 9)
      have HO2 := Lib.hid (ho.out.alloc (.cells #[.string x] 9))
      clear hc
      go_wp2_with fail
      refine (place_any wr G m cG O (Rs.of_own ho.out) (by omega) x).mono ?_; rintro e wz ⟨⟨r, rfl, hp⟩, rfl⟩
      rcases hp with ⟨i, rfl, hi⟩ | ⟨rfl, hnx⟩
      · have HM2 : Hid (∀ y, y ∈ O ↔ y ∈ l.take (j + 1)) := Lib.hid (fun y => by
          rw [HTK.out, List.mem_append, ← hmem.out y, List.mem_singleton]
          exact ⟨.inl, fun h => h.elim id fun e => e ▸ List.mem_of_getElem? hi⟩)
        have t2 : decide ((0 : Int) ≤ i) = true := decide_eq_true (by omega)
        clear hi
        go_wp2_with fail
        go_roundg (n - (j + 1))
        case measure => omega
        case rel => exact ⟨j + 1, m, O, by go_num, by omega, by omega, by omega, ho, hup, HM2, hb⟩
      · have HNX := Lib.hid hnx
        clear hnx
        go_wp2_with (at_builtin; refine wpList_str _ rfl (.tmp 20) (.tmp 25) rfl w.heap.size _ m _ rfl HO2.out _ _ _ [x] rfl HOB.out (by omega) (by simp; omega) ?_; intro G2 c3 w3 ho3 hg3 _)
        have HB3 := Lib.hid (push_ hb.out (Nat.le_refl _) ho.out hg3)
        have HO3 := Lib.hid ho3
        obtain ⟨g, cc, hv, hgb, hgl⟩ := ho3.form (by omega)
        injection hv with hv _ hv3
        subst hv hv3
        have k3 := HKC.out w3 HB3.out
        clear ho3 hg3
        go_wp2_with fail
        go_loopg [5] m (fun gg v5 wr => ∃ k : Nat, v5 = .int .i64 k ∧ k ≤ m ∧ k ≤ gg ∧ Hid (wr.ownsRow w.heap.size 9 1 (.slice (some ⟨g, 0, none⟩) (m + 1) c3) (m + 1) ((O.take k ++ x :: O.drop k).map Value.string)) ∧ Hid (∀ y ∈ O.drop k, x.data.toList < y.data.toList) ∧ Hid (Below w.heap.size w wr))
        case atStart =>
          refine ⟨m, by go_num, Nat.le_refl _, Nat.le_refl _, Lib.hid ?_, Lib.hid (fun y hy => ?_), HB3⟩
          · rw [List.take_of_length_le (by omega), List.drop_of_length_le (by omega)]; exact HO3.out
          · rw [List.drop_of_length_le (by omega)] at hy; cases hy
        case round =>
        obtain ⟨k, rfl, hkm, hgk, hown, hhi, hb2⟩ := hrel
        have kx := HKC.out wr hb2.out
        have HEND : Hid ((∀ (i : Nat) (y : ByteArray), k = i + 1 → O[i]? = some y → ¬ x.data.toList < y.data.toList) → Rising (O.take k ++ x :: O.drop k) ∧ (∀ y, y ∈ O.take k ++ x :: O.drop k ↔ y ∈ l.take (j + 1))) := Lib.hid fun hlo => by
          refine ⟨rising_insert hup.out (by omega) HNX.out hhi.out hlo, fun y => ?_⟩
          rw [HTK.out, List.mem_append, List.mem_cons, List.mem_append, List.mem_singleton, ← hmem.out y]
          have hy : y ∈ O ↔ y ∈ O.take k ∨ y ∈ O.drop k := by rw [← List.mem_append, List.take_append_drop]
          rw [hy]
          constructor
          · rintro (h | h | h)
            · exact .inl (.inl h)
            · exact .inr h
            · exact .inl (.inr h)
          · rintro ((h | h) | h)
            · exact .inl h
            · exact .inr (.inr h)
            · exact .inr (.inl h)
        by_cases hk0 : k = 0
        · have t3 : decide (0 < k) = false := decide_eq_false (by omega)
          have HE2 := Lib.hid (HEND.out (fun i y e => by omega))
          go_wp2_with fail
          go_quiet (fail)
          go_wp2_with fail
          go_roundg (n - (j + 1))
          case measure => omega
          case rel => exact ⟨j + 1, m + 1, _, by go_num, by omega, by omega, by omega, hown, Lib.hid HE2.out.1, Lib.hid HE2.out.2, Lib.hid (bdN hb2.out nq)⟩
        · obtain ⟨i, rfl⟩ : ∃ i, k = i + 1 := ⟨k - 1, by omega⟩
          have hi : i < O.length := by omega
          have HSH := Lib.hid (shift_step O x i hi)
          have HDR := Lib.hid (List.drop_eq_getElem_cons hi)
          have hyO := List.getElem?_eq_getElem hi
          have hky := (hown.out.cellAt i (by omega)).trans (show ((O.take (i + 1) ++ x :: O.drop (i + 1)).map Value.string)[i]? = some (.string O[i]) from by
            rw [List.getElem?_map, List.getElem?_append_left (by rw [List.length_take]; omega), List.getElem?_take_of_lt (by omega), hyO]; rfl)
          have hk1 := (hown.out.cellAt (i + 1) (by omega)).trans (show ((O.take (i + 1) ++ x :: O.drop (i + 1)).map Value.string)[i + 1]? = some (.string x) from by
            rw [List.getElem?_map, List.getElem?_append_right (by rw [List.length_take]; omega), List.length_take, show i + 1 - min (i + 1) O.length = 0 from by omega]; rfl)
          generalize O[i] = y at HSH HDR hyO hky
          have hyx : y ≠ x := fun e => HNX.out (e ▸ List.mem_of_getElem? hyO)
          have e0 : (y.toList == x.toList) = false := by rw [str_beqT]; exact decide_eq_false hyx
          have t3 : decide (0 < i + 1) = true := decide_eq_true (by omega)
          by_cases hxy : x.data.toList < y.data.toList
          · have e1 : Op.bytesLess y.toList x.toList = false := by rw [less_ltT]; exact decide_eq_false fun h => List.lt_irrefl _ (List.lt_trans h hxy)
            have HH5 : Hid (∀ z ∈ O.drop i, x.data.toList < z.data.toList) := Lib.hid fun z hz => by
              rw [HDR.out] at hz
              rcases List.mem_cons.1 hz with rfl | h
              · exact hxy
              · exact hhi.out z h
            clear hyO hyx hxy
            go_wp2_with fail
            go_quiet (fail)
            have f1 : (wr.drewN nq).frozen? ⟨g, i + 1, none⟩ = false := hown.out.frozenAt (i + 1)
            have s1 := World.ownsRow.stored (w := wr.drewN nq) hown.out (i + 1) (.string y)
            have HB4 := Lib.hid (Below.grown (bdN hb2.out nq) s1.2 hb2.out.size (fun k e => by cases e; exact hgb))
            have kx2 := HKC.out _ HB4.out
            have f2 := s1.1.frozenAt i
            have hk2 := (s1.1.cellAt i (by omega)).trans ((List.getElem?_set_ne (by omega)).trans ((hown.out.cellAt i (by omega)).symm.trans hky))
            have s2 := s1.1.stored i (.string x)
            have HB5 := Lib.hid (HB4.out.grown s2.2 HB4.out.size (fun k e => by cases e; exact hgb))
            rw [← List.map_set, ← List.map_set, HSH.out] at s2
            have HO5 := Lib.hid s2.1
            clear s1 s2
            go_wp2_with fail
            go_roundg i
            case measure => omega
            case rel => exact ⟨i, by go_num, by omega, Nat.le_refl _, HO5, HH5, HB5⟩
          · have e1 : Op.bytesLess y.toList x.toList = true := by
              rw [less_ltT]
              refine decide_eq_true ?_
              rcases List.le_iff_lt_or_eq.1 (List.not_lt.1 hxy) with h | h
              · exact h
              · exact absurd (key_inj h) hyx
            have HE2 := Lib.hid (HEND.out (fun i' z e hz => by
              obtain rfl : i = i' := by omega
              rw [hyO] at hz; injection hz with hz; rw [← hz]; exact hxy))
            clear hyO hyx hxy
            go_wp2_with fail
            go_quiet (fail)
            go_wp2_with fail
            go_roundg (n - (j + 1))
            case measure => omega
            case rel => exact ⟨j + 1, m + 1, _, by go_num, by omega, by omega, by omega, hown, Lib.hid HE2.out.1, Lib.hid HE2.out.2, Lib.hid (bdN hb2.out nq)⟩
    · have t1 : decide (j < n) = false := decide_eq_false hlt
      have hjl : j = n := by omega
      have HW : Hid (IsWords O l) := Lib.hid ⟨hup.out, fun x => by
        have h := hmem.out x
        rwa [List.take_of_length_le (by rw [HL.out]; omega)] at h⟩
      go_wp2_with fail
      go_ret
      exact ⟨_, _, _, O, rfl, ho.out, HW.out, by omega, hb.out⟩
end Go.Proofs.YtmejoococajikaaGreat

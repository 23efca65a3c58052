/- Joined texts: TxR, TxS, TxJ. Each has its own head line. No condition beyond those that its theorems state. -/
import Derived.Deep.LoopGhost
import Derived.BigQuiet
import Derived.Laws.IdiomStrings
import Derived.Test.YtmejoococajikaaGreatJ30
import Derived.Test.YtmejoococajikaaGreatJ02
import Derived.Test.YtmejoococajikaaGreatShelf
set_option linter.unusedVariables false

/- The reference of texts: place, Words. -/
namespace Go.Proofs.YtmejoococajikaaGreat
open Go.RowKit

theorem bdN {B : Nat} {a w : World} (h : Below B a w) (q : Nat) : Below B a (w.drewN q) := ⟨h.os, h.tape, h.output, h.size, h.block⟩
theorem str_beqT (a b : ByteArray) : (a.toList == b.toList) = decide (a = b) := by
  rw [Bool.eq_iff_iff]
  simp only [beq_iff_eq, decide_eq_true_eq, ByteArray.toList_eq]
  exact ⟨fun h => key_inj h, fun h => by rw [h]⟩
set_option maxRecDepth 100000 in
set_option maxHeartbeats 1000000 in
theorem place_any (w : World) (A : Option Addr) (n c : Nat) (l : List ByteArray) (hr : Rs w A n l) (hn : n ≤ 1000000) (s : ByteArray) :
    Calls Tryz.prog 23 #[.slice A n c, .string s] w fun e w' => (∃ r, e = .returned (.int .i64 r) ∧ PlaceAt l s r) ∧ w' = w := by
  have HL := Lib.hid hr.len
  have HALL := Lib.hid (fun h0 => hr.all h0)
  clear hr
  go_enter Tryz.func23, Tryz.ntmps23
  go_wp2_with fail
  go_loopg [5] n (fun gg v wr => ∃ j : Nat, v = .int .i64 j ∧ j ≤ n ∧ n - j ≤ gg ∧ Hid (s ∉ l.take j) ∧ wr = w)
  case atStart => exact ⟨0, rfl, by omega, by omega, Lib.hid (by simp), rfl⟩
  case round =>
    obtain ⟨j, rfl, hjN, hgg, hs, rfl⟩ := hrel
    by_cases hlt : j < n
    · have t1 : decide (j < n) = true := decide_eq_true hlt
      obtain ⟨b, o, rfl, hb, hc⟩ := HALL.out (by omega)
      have hj : j < l.length := by rw [HL.out]; exact hlt
      have k1 := hc j hj
      obtain ⟨x, hx⟩ : ∃ x, x = l[j] := ⟨_, rfl⟩
      rw [← hx] at k1
      have HX := Lib.hid hx
      clear hx hc
      by_cases he : x = s
      · have HP : Hid (PlaceAt l s (j : Int)) := Lib.hid (.inl ⟨j, rfl, by rw [List.getElem?_eq_getElem hj, ← HX.out, he]⟩)
        have e1 : (x.toList == s.toList) = true := by rw [str_beqT]; exact decide_eq_true he
        clear he
        go_wp2_with fail
        go_ret
        exact ⟨⟨_, rfl, HP.out⟩, rfl⟩
      · have HS : Hid (s ∉ l.take (j + 1)) := Lib.hid (by
          rw [List.take_succ_eq_append_getElem hj, List.mem_append, ← HX.out]
          rintro (h | h)
          · exact hs.out h
          · exact he (List.mem_singleton.1 h).symm)
        have e1 : (x.toList == s.toList) = false := by rw [str_beqT]; exact decide_eq_false he
        clear he
        go_wp2_with fail
        go_roundg (n - (j + 1))
        case measure => omega
        case rel => exact ⟨j + 1, by go_num, by omega, by omega, HS, rfl⟩
    · have t1 : decide (j < n) = false := decide_eq_false hlt
      have HP : Hid (PlaceAt l s (-1)) := Lib.hid (.inr ⟨rfl, by
        have h := hs.out
        rwa [List.take_of_length_le (by rw [HL.out]; omega)] at h⟩)
      go_wp2_with fail
      go_ret
      exact ⟨⟨_, rfl, HP.out⟩, rfl⟩
theorem less_beforeT : ∀ (a b : List UInt8), Op.bytesLess a b = bytesBefore a b
  | [], [] => rfl
  | [], _ :: _ => rfl
  | _ :: _, [] => rfl
  | x :: r, y :: s => by
    have ih := less_beforeT r s
    unfold Op.bytesLess bytesBefore
    rw [ih]
theorem less_ltT (a b : ByteArray) : Op.bytesLess a.toList b.toList = decide (a.data.toList < b.data.toList) := by
  rw [less_beforeT, ByteArray.toList_eq, ByteArray.toList_eq, Bool.eq_iff_iff, before_lt, decide_eq_true_eq]
set_option maxRecDepth 100000 in
set_option maxHeartbeats 4000000 in
theorem rWords_own (w : World) (A : Option Addr) (n c : Nat) (l : List ByteArray) (hr : Rs w A n l) (hn : n ≤ 1000000) :
    Calls Tryz.prog 13 #[.slice A n c] w fun e w' => ∃ G m c' W, e = .returned (.slice G m c') ∧ w'.ownsRow w.heap.size 9 1 (.slice G m c') m (W.map Value.string) ∧ IsWords W l ∧ m ≤ n ∧ Below w.heap.size w w' := by
  have HL := Lib.hid hr.len
  have HALL := Lib.hid (fun h0 => hr.all h0)
  clear hr
  have HO := Lib.hid (own_empty w 9 1)
  have HB := Lib.hid ((Below.refl w.heap.size w).alloc (Nat.le_refl _) (.cells #[] 9))
  go_enter Tryz.func13, Tryz.ntmps13
  go_wp2_with fail
  go_loopg [3, 4] n (fun gg v3 v wr => ∃ (j m : Nat) (O : List ByteArray), v = .int .i64 j ∧ j ≤ n ∧ n - j ≤ gg ∧ m ≤ j ∧ Hid (wr.ownsRow w.heap.size 9 1 v3 m (O.map Value.string)) ∧ Hid (Rising O) ∧ Hid (∀ x, x ∈ O ↔ x ∈ l.take j) ∧ Hid (Below w.heap.size w wr))
  case atStart => exact ⟨0, 0, [], rfl, by omega, by omega, by omega, HO, Lib.hid List.Pairwise.nil, Lib.hid (by simp), HB⟩
  case round =>
    obtain ⟨j, m, O, rfl, hjN, hgg, hmj, ho, hup, hmem, hb⟩ := hrel
    obtain ⟨G, cG, hG⟩ := own_form ho.out
    subst hG
    have hz := hb.out.size
    have hOl : O.length = m := by have := ho.out.1; simpa using this
    by_cases hlt : j < n
    · have t1 : decide (j < n) = true := decide_eq_true hlt
      obtain ⟨b, o, rfl, hbb, hc⟩ := HALL.out (by omega)
      have hj : j < l.length := by rw [HL.out]; exact hlt
      have kc := hc j hj
      have HKC : Hid (∀ v : World, Below w.heap.size w v → v.cell? ⟨b, o + j, none⟩ = some (.string l[j])) := Lib.hid fun v hv => (hv.cell (p := ⟨b, o + j, none⟩) hbb).trans kc
      have k1 := HKC.out wr hb.out
      have HTK := Lib.hid (show l.take (j + 1) = l.take j ++ [l[j]] from List.take_succ_eq_append_getElem hj)
      clear kc
      generalize l[j] = x at k1 HTK HKC
      have HOB := Lib.hid (Rs.one wr x 9)
      have HO2 := Lib.hid (ho.out.alloc (.cells #[.string x] 9))
      clear hc
      go_wp2_with fail
      refine (place_any wr G m cG O (Rs.of_own ho.out) (by omega) x).mono ?_; rintro e wz ⟨⟨r, rfl, hp⟩, rfl⟩
      rcases hp with ⟨i, rfl, hi⟩ | ⟨rfl, hnx⟩
      · have HM2 : Hid (∀ y, y ∈ O ↔ y ∈ l.take (j + 1)) := Lib.hid (fun y => by
          rw [HTK.out, List.mem_append, ← hmem.out y, List.mem_singleton]
          exact ⟨.inl, fun h => h.elim id fun e => e ▸ List.mem_of_getElem? hi⟩)
        have t2 : decide ((0 : Int) ≤ i) = true := decide_eq_true (by omega)
        clear hi
        go_wp2_with fail
        go_roundg (n - (j + 1))
        case measure => omega
        case rel => exact ⟨j + 1, m, O, by go_num, by omega, by omega, by omega, ho, hup, HM2, hb⟩
      · have HNX := Lib.hid hnx
        clear hnx
        go_wp2_with (at_builtin; refine wpList_str _ rfl (.tmp 20) (.tmp 25) rfl w.heap.size _ m _ rfl HO2.out _ _ _ [x] rfl HOB.out (by omega) (by simp; omega) ?_; intro G2 c3 w3 ho3 hg3 _)
        have HB3 := Lib.hid (push_ hb.out (Nat.le_refl _) ho.out hg3)
        have HO3 := Lib.hid ho3
        obtain ⟨g, cc, hv, hgb, hgl⟩ := ho3.form (by omega)
        injection hv with hv _ hv3
        subst hv hv3
        have k3 := HKC.out w3 HB3.out
        clear ho3 hg3
        go_wp2_with fail
        go_loopg [5] m (fun gg v5 wr => ∃ k : Nat, v5 = .int .i64 k ∧ k ≤ m ∧ k ≤ gg ∧ Hid (wr.ownsRow w.heap.size 9 1 (.slice (some ⟨g, 0, none⟩) (m + 1) c3) (m + 1) ((O.take k ++ x :: O.drop k).map Value.string)) ∧ Hid (∀ y ∈ O.drop k, x.data.toList < y.data.toList) ∧ Hid (Below w.heap.size w wr))
        case atStart =>
          refine ⟨m, by go_num, Nat.le_refl _, Nat.le_refl _, Lib.hid ?_, Lib.hid (fun y hy => ?_), HB3⟩
          · rw [List.take_of_length_le (by omega), List.drop_of_length_le (by omega)]; exact HO3.out
          · rw [List.drop_of_length_le (by omega)] at hy; cases hy
        case round =>
        obtain ⟨k, rfl, hkm, hgk, hown, hhi, hb2⟩ := hrel
        have kx := HKC.out wr hb2.out
        have HEND : Hid ((∀ (i : Nat) (y : ByteArray), k = i + 1 → O[i]? = some y → ¬ x.data.toList < y.data.toList) → Rising (O.take k ++ x :: O.drop k) ∧ (∀ y, y ∈ O.take k ++ x :: O.drop k ↔ y ∈ l.take (j + 1))) := Lib.hid fun hlo => by
          refine ⟨rising_insert hup.out (by omega) HNX.out hhi.out hlo, fun y => ?_⟩
          rw [HTK.out, List.mem_append, List.mem_cons, List.mem_append, List.mem_singleton, ← hmem.out y]
          have hy : y ∈ O ↔ y ∈ O.take k ∨ y ∈ O.drop k := by rw [← List.mem_append, List.take_append_drop]
          rw [hy]
          constructor
          · rintro (h | h | h)
            · exact .inl (.inl h)
            · exact .inr h
            · exact .inl (.inr h)
          · rintro ((h | h) | h)
            · exact .inl h
            · exact .inr (.inr h)
            · exact .inr (.inl h)
        by_cases hk0 : k = 0
        · have t3 : decide (0 < k) = false := decide_eq_false (by omega)
          have HE2 := Lib.hid (HEND.out (fun i y e => by omega))
          go_wp2_with fail
          go_quiet (fail)
          go_wp2_with fail
          go_roundg (n - (j + 1))
          case measure => omega
          case rel => exact ⟨j + 1, m + 1, _, by go_num, by omega, by omega, by omega, hown, Lib.hid HE2.out.1, Lib.hid HE2.out.2, Lib.hid (bdN hb2.out nq)⟩
        · obtain ⟨i, rfl⟩ : ∃ i, k = i + 1 := ⟨k - 1, by omega⟩
          have hi : i < O.length := by omega
          have HSH := Lib.hid (shift_step O x i hi)
          have HDR := Lib.hid (List.drop_eq_getElem_cons hi)
          have hyO := List.getElem?_eq_getElem hi
          have hky := (hown.out.cellAt i (by omega)).trans (show ((O.take (i + 1) ++ x :: O.drop (i + 1)).map Value.string)[i]? = some (.string O[i]) from by
            rw [List.getElem?_map, List.getElem?_append_left (by rw [List.length_take]; omega), List.getElem?_take_of_lt (by omega), hyO]; rfl)
          have hk1 := (hown.out.cellAt (i + 1) (by omega)).trans (show ((O.take (i + 1) ++ x :: O.drop (i + 1)).map Value.string)[i + 1]? = some (.string x) from by
            rw [List.getElem?_map, List.getElem?_append_right (by rw [List.length_take]; omega), List.length_take, show i + 1 - min (i + 1) O.length = 0 from by omega]; rfl)
          generalize O[i] = y at HSH HDR hyO hky
          have hyx : y ≠ x := fun e => HNX.out (e ▸ List.mem_of_getElem? hyO)
          have e0 : (y.toList == x.toList) = false := by rw [str_beqT]; exact decide_eq_false hyx
          have t3 : decide (0 < i + 1) = true := decide_eq_true (by omega)
          by_cases hxy : x.data.toList < y.data.toList
          · have e1 : Op.bytesLess y.toList x.toList = false := by rw [less_ltT]; exact decide_eq_false fun h => List.lt_irrefl _ (List.lt_trans h hxy)
            have HH5 : Hid (∀ z ∈ O.drop i, x.data.toList < z.data.toList) := Lib.hid fun z hz => by
              rw [HDR.out] at hz
              rcases List.mem_cons.1 hz with rfl | h
              · exact hxy
              · exact hhi.out z h
            clear hyO hyx hxy
            go_wp2_with fail
            go_quiet (fail)
            have f1 : (wr.drewN nq).frozen? ⟨g, i + 1, none⟩ = false := hown.out.frozenAt (i + 1)
            have s1 := World.ownsRow.stored (w := wr.drewN nq) hown.out (i + 1) (.string y)
            have HB4 := Lib.hid (Below.grown (bdN hb2.out nq) s1.2 hb2.out.size (fun k e => by cases e; exact hgb))
            have kx2 := HKC.out _ HB4.out
            have f2 := s1.1.frozenAt i
            have hk2 := (s1.1.cellAt i (by omega)).trans ((List.getElem?_set_ne (by omega)).trans ((hown.out.cellAt i (by omega)).symm.trans hky))
            have s2 := s1.1.stored i (.string x)
            have HB5 := Lib.hid (HB4.out.grown s2.2 HB4.out.size (fun k e => by cases e; exact hgb))
            rw [← List.map_set, ← List.map_set, HSH.out] at s2
            have HO5 := Lib.hid s2.1
            clear s1 s2
            go_wp2_with fail
            go_roundg i
            case measure => omega
            case rel => exact ⟨i, by go_num, by omega, Nat.le_refl _, HO5, HH5, HB5⟩
          · have e1 : Op.bytesLess y.toList x.toList = true := by
              rw [less_ltT]
              refine decide_eq_true ?_
              rcases List.le_iff_lt_or_eq.1 (List.not_lt.1 hxy) with h | h
              · exact h
              · exact absurd (key_inj h) hyx
            have HE2 := Lib.hid (HEND.out (fun i' z e hz => by
              obtain rfl : i = i' := by omega
              rw [hyO] at hz; injection hz with hz; rw [← hz]; exact hxy))
            clear hyO hyx hxy
            go_wp2_with fail
            go_quiet (fail)
            go_wp2_with fail
            go_roundg (n - (j + 1))
            case measure => omega
            case rel => exact ⟨j + 1, m + 1, _, by go_num, by omega, by omega, by omega, hown, Lib.hid HE2.out.1, Lib.hid HE2.out.2, Lib.hid (bdN hb2.out nq)⟩
    · have t1 : decide (j < n) = false := decide_eq_false hlt
      have hjl : j = n := by omega
      have HW : Hid (IsWords O l) := Lib.hid ⟨hup.out, fun x => by
        have h := hmem.out x
        rwa [List.take_of_length_le (by rw [HL.out]; omega)] at h⟩
      go_wp2_with fail
      go_ret
      exact ⟨_, _, _, O, rfl, ho.out, HW.out, by omega, hb.out⟩
end Go.Proofs.YtmejoococajikaaGreat

/- Texts: Same, SameColumn. -/
namespace Go.Proofs.YtmejoococajikaaGreat
open Go.RowKit

/-- A row of n streams that reads as S: their kinds, their bytes. -/
def StAt (w : World) (A : Option Addr) (n : Nat) (S : List (Int × List Int)) : Prop :=
  S.length = n ∧ (0 < n → ∃ b o, A = some ⟨b, o, none⟩ ∧ b < w.heap.size ∧ ∀ j (hj : j < S.length), w.cell? ⟨b, o + j * 2, none⟩ = some (.int .i64 S[j].1) ∧ ∃ G m c, w.cell? ⟨b, o + j * 2 + 1, none⟩ = some (.slice G m c) ∧ Sl w .u8 G m c S[j].2)
theorem StAt.below {w w' : World} {A : Option Addr} {n : Nat} {S : List (Int × List Int)} (h : StAt w A n S) (hb : Below w.heap.size w w') : StAt w' A n S :=
  ⟨h.1, fun h0 => by
    obtain ⟨b, o, e, hlt, hc⟩ := h.2 h0
    refine ⟨b, o, e, Nat.lt_of_lt_of_le hlt hb.size, fun j hj => ?_⟩
    obtain ⟨k1, G, m, c, k2, k3⟩ := hc j hj
    exact ⟨(hb.cell (p := ⟨b, _, none⟩) hlt).trans k1, G, m, c, (hb.cell (p := ⟨b, _, none⟩) hlt).trans k2, k3.below hb⟩⟩
theorem newBlkT (w : World) (o : Obj) : (w.alloc o).heap[w.heap.size]? = some o := by
  show (w.heap.push o)[w.heap.size]? = some o
  exact Array.getElem?_push_size
theorem cell_blkT {w : World} {b : Nat} {cs : Array Value} {t : TypeId} {z : Nat × Nat} (h : w.heap[b]? = some (.cells cs t z)) (j : Nat) : w.cell? ⟨b, j, none⟩ = cs[j]? := by
  simp [World.cell?, h]
theorem StAt.nil (w : World) (A : Option Addr) : StAt w A 0 [] := ⟨rfl, fun h => absurd h (by omega)⟩
set_option maxRecDepth 100000 in
set_option maxHeartbeats 4000000 in
/-- Two rows of texts are the same. -/
theorem rSame15_any (w : World) (A B : Option Addr) (n m c c' : Nat) (l k : List ByteArray) (hl : Rs w A n l) (hk : Rs w B m k) (hn : n < 1000000) (hm : m < 1000000) :
    Calls Tryz.prog 11 #[.slice A n c, .slice B m c'] w fun e w' => e = .returned (.bool (decide (l = k))) ∧ ∃ q, w' = w.drewN q := by
  by_cases hnm : n = m
  · subst hnm
    have hA : n = 0 ∨ (0 < n ∧ (∃ b o, A = some ⟨b, o, none⟩ ∧ b < w.heap.size ∧ ∀ j (hj : j < l.length), w.cell? ⟨b, o + j, none⟩ = some (.string l[j])) ∧ (∃ b o, B = some ⟨b, o, none⟩ ∧ b < w.heap.size ∧ ∀ j (hj : j < k.length), w.cell? ⟨b, o + j, none⟩ = some (.string k[j]))) := by
      rcases Nat.eq_zero_or_pos n with h | h
      · exact .inl h
      · exact .inr ⟨h, hl.all h, hk.all h⟩
    have HLL := Lib.hid hl.len
    have HKL := Lib.hid hk.len
    clear hl hk
    rcases hA with rfl | ⟨h0, ⟨b1, o1, rfl, _, hc1⟩, ⟨b2, o2, rfl, _, hc2⟩⟩
    · have hlk : l = k := by rw [List.eq_nil_of_length_eq_zero HLL.out, List.eq_nil_of_length_eq_zero HKL.out]
      have HD := Lib.hid (decide_eq_true hlk)
      clear hlk
      go_enter Tryz.func11, Tryz.ntmps11
      go_wp2_with fail
      refine wp_loop_rounds 1 ?_
      rw [rounds_succ]
      go_wp2_with fail
      go_ret
      exact ⟨ret_bool HD.out.symm, 0, rfl⟩
    · have HC1 := Lib.hid hc1
      have HC2 := Lib.hid hc2
      clear hc1 hc2
      go_enter Tryz.func11, Tryz.ntmps11
      go_wp2_with fail
      go_loopg [5] n (fun gg v wr => ∃ j : Nat, v = .int .i64 j ∧ j ≤ n ∧ n - j ≤ gg ∧ Hid (l.take j = k.take j) ∧ ∃ q, wr = w.drewN q)
      case atStart => exact ⟨0, rfl, by omega, by omega, Lib.hid rfl, 0, rfl⟩
      case round =>
        obtain ⟨j, rfl, hjN, hgg, hs, q, rfl⟩ := hrel
        by_cases hlt : j < n
        · have t1 : decide (j < n) = true := decide_eq_true hlt
          have hj1 : j < l.length := by rw [HLL.out]; exact hlt
          have hj2 : j < k.length := by rw [HKL.out]; exact hlt
          have k1 := HC1.out j hj1
          have k2 := HC2.out j hj2
          obtain ⟨x, hx⟩ : ∃ x, x = l[j] := ⟨_, rfl⟩
          obtain ⟨z, hz⟩ : ∃ z, z = k[j] := ⟨_, rfl⟩
          rw [← hx] at k1
          rw [← hz] at k2
          have HX := Lib.hid hx; have HZ := Lib.hid hz
          clear hx hz
          by_cases he : x = z
          · have HS : Hid (l.take (j + 1) = k.take (j + 1)) := Lib.hid (by
              rw [List.take_add_one, List.take_add_one, List.getElem?_eq_getElem hj1, List.getElem?_eq_getElem hj2, hs.out, ← HX.out, ← HZ.out, he])
            subst he
            have e1 : (x.toList != x.toList) = false := by simp
            go_wp2_with fail
            go_quiet (fail)
            go_wp2_with fail
            go_roundg (n - (j + 1))
            case measure => omega
            case rel => exact ⟨j + 1, by go_num, by omega, by omega, HS, _, rfl⟩
          · have e0 : (x.toList == z.toList) = false := by rw [str_beqT]; exact decide_eq_false he
            have e1 : (x.toList != z.toList) = true := by rw [bne, e0]; rfl
            have hlk : l ≠ k := fun e => he (by rw [HX.out, HZ.out]; simp only [e])
            have HD := Lib.hid (decide_eq_false hlk)
            clear hlk he
            go_wp2_with fail
            go_quiet (fail)
            go_wp2_with fail
            go_ret
            exact ⟨ret_bool HD.out.symm, q + nq, by simp⟩
        · have t1 : decide (j < n) = false := decide_eq_false hlt
          have hlk : l = k := by
            have := hs.out
            rwa [List.take_of_length_le (by rw [HLL.out]; omega), List.take_of_length_le (by rw [HKL.out]; omega)] at this
          have HD := Lib.hid (decide_eq_true hlk)
          clear hlk
          go_wp2_with fail
          go_ret
          exact ⟨ret_bool HD.out.symm, _, rfl⟩
  · have hlk : l ≠ k := fun e => hnm (by rw [← hl.len, ← hk.len, e])
    have HD := Lib.hid (decide_eq_false hlk)
    have t1 : ((n : Int) != m) = true := by simp; omega
    clear hlk hl hk
    go_enter Tryz.func11, Tryz.ntmps11
    go_wp2_with fail
    go_ret
    exact ⟨ret_bool HD.out.symm, 0, rfl⟩
set_option maxRecDepth 100000 in
set_option maxHeartbeats 4000000 in
theorem SameColumn_any (w : World) (q e t : Int) (A B : Option Addr) (n c c' : Nat) (S : List (Int × List Int)) (h1 : StAt w A n S) (h2 : StAt w B n S) (hn : n ≤ 1000000) :
    Calls Tryz.prog 10 #[.agg #[.int .i64 q, .int .i64 e, .int .i64 t, .slice A n c], .agg #[.int .i64 q, .int .i64 e, .int .i64 t, .slice B n c']] w fun e w' => e = .returned (.bool true) ∧ Below w.heap.size w w' := by
  have HL := Lib.hid h1.1
  have H1 := Lib.hid (fun h0 => h1.2 h0)
  have H2 := Lib.hid (fun h0 => h2.2 h0)
  clear h1 h2
  go_enter Tryz.func10, Tryz.ntmps10
  go_wp2_with fail
  obtain ⟨wa, hwa⟩ : ∃ wa, wa = ((w.alloc (.cells #[.int .i64 q, .int .i64 e, .int .i64 t, .slice A n c] 27)).alloc (.cells #[.int .i64 q, .int .i64 e, .int .i64 t, .slice B n c'] 27)) := ⟨_, rfl⟩
  rw [← hwa]
  have hA2 : wa.heap[w.heap.size]? = some (.cells #[.int .i64 q, .int .i64 e, .int .i64 t, .slice A n c] 27) := by
    rw [hwa]; exact (Below.heap_alloc _ _ _ (by rw [World.size_alloc]; omega)).trans (newBlkT w _)
  have hB2 : wa.heap[w.heap.size + 1]? = some (.cells #[.int .i64 q, .int .i64 e, .int .i64 t, .slice B n c'] 27) := by
    have h := newBlkT (w.alloc (.cells #[.int .i64 q, .int .i64 e, .int .i64 t, .slice A n c] 27)) (.cells #[.int .i64 q, .int .i64 e, .int .i64 t, .slice B n c'] 27)
    rw [World.size_alloc] at h
    rw [hwa]; exact h
  have cA : wa.cell? ⟨w.heap.size, 3, none⟩ = some (.slice A n c) := by rw [cell_blkT hA2]; rfl
  have cB : wa.cell? ⟨w.heap.size + 1, 3, none⟩ = some (.slice B n c') := by rw [cell_blkT hB2]; rfl
  clear hA2 hB2
  have HBA : Hid (Below w.heap.size w wa) := Lib.hid (hwa ▸ ((Below.refl w.heap.size w).alloc (Nat.le_refl _) _).alloc (by simp) _)
  clear hwa
  have hst : n = 0 ∨ (0 < n ∧ ∃ b1 o1 b2 o2, A = some ⟨b1, o1, none⟩ ∧ B = some ⟨b2, o2, none⟩) := by
    rcases Nat.eq_zero_or_pos n with h | h
    · exact .inl h
    · obtain ⟨b1, o1, e1, _⟩ := H1.out h
      obtain ⟨b2, o2, e2, _⟩ := H2.out h
      exact .inr ⟨h, b1, o1, b2, o2, e1, e2⟩
  go_loopg [5] n (fun gg v wr => ∃ j : Nat, v = .int .i64 j ∧ j ≤ n ∧ n - j ≤ gg ∧ ∃ q', wr = wa.drewN q')
  case atStart => exact ⟨0, rfl, by omega, by omega, 0, rfl⟩
  case round =>
    obtain ⟨j, rfl, hjn, hgg, q', rfl⟩ := hrel
    by_cases hlt : j < n
    · have t1 : decide (j < n) = true := decide_eq_true hlt
      have hj : j < S.length := by rw [HL.out]; exact hlt
      obtain ⟨b1, o1, rfl, hl1, hc1⟩ := H1.out (by omega)
      obtain ⟨b2, o2, rfl, hl2, hc2⟩ := H2.out (by omega)
      obtain ⟨k1, G1, m1, d1, k2, k3⟩ := hc1 j hj
      obtain ⟨z1, G2, m2, d2, z2, z3⟩ := hc2 j hj
      generalize S[j] = x at k1 k3 z1 z3
      have hbw : Below w.heap.size w wa := HBA.out
      have k1 := (hbw.cell (p := ⟨b1, _, none⟩) hl1).trans k1
      have k2 := (hbw.cell (p := ⟨b1, _, none⟩) hl1).trans k2
      have z1 := (hbw.cell (p := ⟨b2, _, none⟩) hl2).trans z1
      have z2 := (hbw.cell (p := ⟨b2, _, none⟩) hl2).trans z2
      have va := fun nn : Nat => conv_any (w := wa.drewN nn) (c := d1) (k3.below hbw).1
      have vb := fun nn : Nat => conv_any (w := wa.drewN nn) (c := d2) (z3.below hbw).1
      have st := strOf_same x.2
      have st2 : ((strOf x.2).toList != (strOf x.2).toList) = false := by simp
      clear hc1 hc2 k3 z3 hbw
      go_wp2_with fail
      go_quiet (fail)
      go_wp2_with fail
      go_roundg (n - (j + 1))
      case measure => omega
      case rel => exact ⟨j + 1, by go_num, by omega, by omega, _, rfl⟩
    · have t1 : decide (j < n) = false := decide_eq_false hlt
      go_wp2_with fail
      go_ret
      exact ⟨rfl, bdN HBA.out _⟩
end Go.Proofs.YtmejoococajikaaGreat

/- Texts: a text's bytes as a slice; texts joined; rows behind a store. -/
namespace Go.Proofs.YtmejoococajikaaGreat
open Go.RowKit

/-- '[]byte(s)': its capacity, the world behind it. -/
def capB (w : World) (s : ByteArray) : Nat := grownCap w s.size 0 5
def toB (w : World) (s : ByteArray) : World :=
  w.drew.alloc (.cells (bytesRow s (capB w s)) 5 ((bytesRow s (capB w s)).size, (bytesRow s (capB w s)).size + 1))
theorem conv_bytes (w : World) (s : ByteArray) : (convert 9 38 (.string s)).run Tryz.prog w = .ok (.slice (some ⟨w.heap.size, 0, none⟩) s.size (capB w s)) (toB w s) :=
  run_bytes_of_string w _ _ _ s Tryz.underlying9 Tryz.underlying38 Tryz.underlying5
theorem toB_below (w : World) (s : ByteArray) : Below w.heap.size w (toB w s) :=
  Below.alloc (bdN (Below.refl _ w) 1) (Nat.le_refl _) _
theorem toB_sl (w : World) (s : ByteArray) (hs : s.size ≤ maxLen) : Sl (toB w s) .u8 (some ⟨w.heap.size, 0, none⟩) s.size (capB w s) (bytesT s) := by
  refine ⟨⟨by rw [List.length_map, bytesT_len, Nat.mul_one], fun _ => ⟨w.heap.size, 0, rfl, ?_, fun j u hu => ?_⟩⟩, grownCap_ge _ _ _ _, grownCap_le_maxLen _ _ _ _ hs⟩
  · show w.heap.size < (w.drew.alloc _).heap.size
    rw [World.size_alloc]
    exact Nat.lt_succ_self _
  · have hb : (toB w s).heap[w.heap.size]? = some (.cells (bytesRow s (capB w s)) 5 ((bytesRow s (capB w s)).size, (bytesRow s (capB w s)).size + 1)) := newBlkT w.drew _
    rw [Nat.zero_add, cell_blkT hb]
    have hj : j < s.data.size := by
      rcases Nat.lt_or_ge j s.data.size with h | h
      · exact h
      · rw [List.getElem?_eq_none (by rw [List.length_map, bytesT_len]; exact h)] at hu; cases hu
    rw [bytesRow_at s _ j hj]
    unfold bytesT at hu
    rw [List.map_map, List.getElem?_map, List.getElem?_eq_getElem (by simpa using hj)] at hu
    rw [← hu]
    simp
theorem catT_join (l : List ByteArray) : bytesT ⟨(Lib.join (l.map (·.data.toList)) []).toArray⟩ = catT l := by
  unfold bytesT catT Lib.join
  have h : (([] : List UInt8).intercalate (l.map (·.data.toList))) = (l.map (·.data.toList)).flatten := by
    induction l with
    | nil => rfl
    | cons s r ih =>
      have h2 := Lib.join_cons s.data.toList (r.map (·.data.toList)) []
      unfold Lib.join Lib.joinTail at h2
      rw [List.map_cons, h2, List.flatten_cons]
      congr 1
      rw [show ((fun x : List UInt8 => [] ++ x) = id) from rfl, List.map_id]
  rw [h, List.flatMap_def]
  show List.map (fun u : UInt8 => (u.toNat : Int)) (l.map (·.data.toList)).flatten = _
  rw [List.map_flatten, List.map_map]
  rfl
set_option maxHeartbeats 1000000 in
theorem join_any (w : World) (A : Option Addr) (n c : Nat) (l : List ByteArray) (hr : Rs w A n l) (hc : n ≤ c) (hn : n ≤ 1000) (hs : ∀ s ∈ l, s.size ≤ 1000) :
    Calls Tryz.prog 19 #[.slice A n c, .string ⟨#[]⟩] w fun e w' => ∃ s : ByteArray, e = .returned (.string s) ∧ bytesT s = catT l ∧ s.size ≤ 1000000 ∧ Below w.heap.size w w' := by
  have hl := hr.len
  have hsz : (⟨(Lib.join (l.map (·.data.toList)) []).toArray⟩ : ByteArray).size ≤ 1000000 := by
    rw [← bytesT_len, catT_join]
    have := catT_len hs
    have : l.length * 1000 ≤ 1000 * 1000 := Nat.mul_le_mul_right _ (by omega)
    omega
  rcases Nat.eq_zero_or_pos n with rfl | h0
  · obtain rfl : l = [] := List.eq_nil_of_length_eq_zero hl
    refine (Tryz.strings_Join_none A c ⟨#[]⟩ w).mono ?_
    rintro e w' ⟨rfl, rfl⟩
    exact ⟨_, rfl, rfl, by decide, Below.refl _ _⟩
  · obtain ⟨b, o, rfl, hb, hcell⟩ := hr.all h0
    subst hl
    have hlen : (Lib.join (l.map (·.data.toList)) (⟨#[]⟩ : ByteArray).data.toList).length ≤ 140737488355328 := by
      have : (Lib.join (l.map (·.data.toList)) []).length ≤ 1000000 := by simpa [ByteArray.size] using hsz
      exact Nat.le_trans this (by omega)
    refine (Tryz.strings_Join b o c l ⟨#[]⟩ w (fun j x hx => ?_) hb (by omega) hc hlen).mono ?_
    · obtain ⟨hj, rfl⟩ := List.getElem?_eq_some_iff.1 hx
      exact hcell j hj
    · rintro e w' ⟨rfl, hb'⟩
      exact ⟨_, rfl, catT_join l, hsz, hb'⟩

/-- A row of bytes stays, where its block stays. -/
theorem Ri.of_heap {w w' : World} {k : IntKind} {A : Option Addr} {n : Nat} {l : List Int} (h : Ri w k A n l) (hz : w.heap.size ≤ w'.heap.size) (hb : ∀ b o, 0 < n → A = some ⟨b, o, none⟩ → w'.heap[b]? = w.heap[b]?) : Ri w' k A n l :=
  ⟨h.1, fun h0 => by
    obtain ⟨b, o, e, hlt, hc⟩ := h.2 h0
    exact ⟨b, o, e, Nat.lt_of_lt_of_le hlt hz, fun j u hu => (World.cell?_of_block (hb b o h0 e)).trans (hc j u hu)⟩⟩
/-- Bytes don't lie where a column lies. -/
theorem Ri.not_col {w : World} {A : Option Addr} {n : Nat} {l : List Int} (h : Ri w .u8 A n l) {B : Nat} {a b c : Int} {x : Option Addr} {y z : Nat} {t : TypeId} {f : Nat × Nat}
    (hB : w.heap[B]? = some (.cells #[.int .i64 a, .int .i64 b, .int .i64 c, .slice x y z] t f)) : ∀ g o, 0 < n → A = some ⟨g, o, none⟩ → g ≠ B := fun g o h0 e => by
  obtain ⟨g', o', e', hlt, hc⟩ := h.2 h0
  rw [e] at e'
  injection e' with e'
  injection e' with e1 e2
  subst e1 e2
  rintro rfl
  have hl : 0 < (l.map (Value.int .u8)).length := by have := h.1; omega
  have h1 := hc 0 _ (List.getElem?_eq_getElem hl)
  rw [cell_blkT hB, List.getElem_map] at h1
  have ho : o = 0 ∨ o = 1 ∨ o = 2 ∨ o = 3 ∨ 4 ≤ o := by omega
  rcases ho with rfl | rfl | rfl | rfl | ho
  · cases h1
  · cases h1
  · cases h1
  · cases h1
  · rw [Array.getElem?_eq_none (by simpa using ho)] at h1; cases h1
/-- Streams out of one block. -/
theorem stAt_of {w : World} {sb : Nat} {cs : Array Value} {t : TypeId} {z : Nat × Nat} {S : List (Int × List Int)} (hb : w.heap[sb]? = some (.cells cs t z))
    (h : ∀ j (hj : j < S.length), cs[j * 2]? = some (.int .i64 S[j].1) ∧ ∃ G m c, cs[j * 2 + 1]? = some (.slice G m c) ∧ Sl w .u8 G m c S[j].2) : StAt w (some ⟨sb, 0, none⟩) S.length S :=
  ⟨rfl, fun _ => ⟨sb, 0, rfl, (Array.getElem?_eq_some_iff.1 hb).1, fun j hj => by
    obtain ⟨k1, G, m, c, k2, k3⟩ := h j hj
    refine ⟨?_, G, m, c, ?_, k3⟩
    · rw [Nat.zero_add, cell_blkT hb]; exact k1
    · rw [Nat.zero_add, cell_blkT hb]; exact k2⟩⟩
end Go.Proofs.YtmejoococajikaaGreat

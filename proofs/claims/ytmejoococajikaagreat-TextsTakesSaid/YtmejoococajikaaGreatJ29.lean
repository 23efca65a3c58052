/- Joined texts: TxR, DkV, TxM, RepPl. Each has its own head line. No condition beyond those that its theorems state. -/
import Derived.Deep.LoopGhost
import Derived.BigQuiet
import Derived.Maps.OwnSet
import Derived.Maps.RangeWalk
import Derived.Maps.Ext
import Derived.Test.YtmejoococajikaaGreatJ28
import Derived.Test.YtmejoococajikaaGreatJ04
import Derived.Test.YtmejoococajikaaGreatJ01
import Derived.Test.YtmejoococajikaaGreatJ26
set_option linter.unusedVariables false

/- The reference of texts: place, Words. -/
namespace Go.Proofs.YtmejoococajikaaGreat
open Go.RowKit

theorem bdN {B : Nat} {a w : World} (h : Below B a w) (q : Nat) : Below B a (w.drewN q) := ⟨h.os, h.tape, h.output, h.size, h.block⟩
theorem str_beqT (a b : ByteArray) : (a.toList == b.toList) = decide (a = b) := by
  rw [Bool.eq_iff_iff]
  simp only [beq_iff_eq, decide_eq_true_eq, ByteArray.toList_eq]
  exact ⟨fun h => key_inj h, fun h => by rw [h]⟩
set_option maxRecDepth 100000 in
set_option maxHeartbeats 1000000 in
theorem place_any (w : World) (A : Option Addr) (n c : Nat) (l : List ByteArray) (hr : Rs w A n l) (hn : n ≤ 1000000) (s : ByteArray) :
    Calls Tryz.prog 23 #[.slice A n c, .string s] w fun e w' => (∃ r, e = .returned (.int .i64 r) ∧ PlaceAt l s r) ∧ w' = w := by
  have HL := Lib.hid hr.len
  have HALL := Lib.hid (fun h0 => hr.all h0)
  clear hr
  go_enter Tryz.func23, Tryz.ntmps23
  go_wp2_with fail
  go_loopg [5] n (fun gg v wr => ∃ j : Nat, v = .int .i64 j ∧ j ≤ n ∧ n - j ≤ gg ∧ Hid (s ∉ l.take j) ∧ wr = w)
  case atStart => exact ⟨0, rfl, by omega, by omega, Lib.hid (by simp), rfl⟩
  case round =>
    obtain ⟨j, rfl, hjN, hgg, hs, rfl⟩ := hrel
    by_cases hlt : j < n
    · have t1 : decide (j < n) = true := decide_eq_true hlt
      obtain ⟨b, o, rfl, hb, hc⟩ := HALL.out (by omega)
      have hj : j < l.length := by rw [HL.out]; exact hlt
      have k1 := hc j hj
      obtain ⟨x, hx⟩ : ∃ x, x = l[j] := ⟨_, rfl⟩
      rw [← hx] at k1
      have HX := Lib.hid hx
      clear hx hc
      by_cases he : x = s
      · have HP : Hid (PlaceAt l s (j : Int)) := Lib.hid (.inl ⟨j, rfl, by rw [List.getElem?_eq_getElem hj, ← HX.out, he]⟩)
        have e1 : (x.toList == s.toList) = true := by rw [str_beqT]; exact decide_eq_true he
        clear he
        go_wp2_with fail
        go_ret
        exact ⟨⟨_, rfl, HP.out⟩, rfl⟩
      · have HS : Hid (s ∉ l.take (j + 1)) := Lib.hid (by
          rw [List.take_succ_eq_append_getElem hj, List.mem_append, ← HX.out]
          rintro (h | h)
          · exact hs.out h
          · exact he (List.mem_singleton.1 h).symm)
        have e1 : (x.toList == s.toList) = false := by rw [str_beqT]; exact decide_eq_false he
        clear he
        go_wp2_with fail
        go_roundg (n - (j + 1))
        case measure => omega
        case rel => exact ⟨j + 1, by go_num, by omega, by omega, HS, rfl⟩
    · have t1 : decide (j < n) = false := decide_eq_false hlt
      have HP : Hid (PlaceAt l s (-1)) := Lib.hid (.inr ⟨rfl, by
        have h := hs.out
        rwa [List.take_of_length_le (by rw [HL.out]; omega)] at h⟩)
      go_wp2_with fail
      go_ret
      exact ⟨⟨_, rfl, HP.out⟩, rfl⟩
theorem less_beforeT : ∀ (a b : List UInt8), Op.bytesLess a b = bytesBefore a b
  | [], [] => rfl
  | [], _ :: _ => rfl
  | _ :: _, [] => rfl
  | x :: r, y :: s => by
    have ih := less_beforeT r s
    unfold Op.bytesLess bytesBefore
    rw [ih]
theorem less_ltT (a b : ByteArray) : Op.bytesLess a.toList b.toList = decide (a.data.toList < b.data.toList) := by
  rw [less_beforeT, ByteArray.toList_eq, ByteArray.toList_eq, Bool.eq_iff_iff, before_lt, decide_eq_true_eq]
set_option maxRecDepth 100000 in
set_option maxHeartbeats 4000000 in
theorem rWords_own (w : World) (A : Option Addr) (n c : Nat) (l : List ByteArray) (hr : Rs w A n l) (hn : n ≤ 1000000) :
    Calls Tryz.prog 13 #[.slice A n c] w fun e w' => ∃ G m c' W, e = .returned (.slice G m c') ∧ w'.ownsRow w.heap.size 9 1 (.slice G m c') m (W.map Value.string) ∧ IsWords W l ∧ m ≤ n ∧ Below w.heap.size w w' := by
  have HL := Lib.hid hr.len
  have HALL := Lib.hid (fun h0 => hr.all h0)
  clear hr
  have HO := Lib.hid (own_empty w 9 1)
  have HB := Lib.hid ((Below.refl w.heap.size w).alloc (Nat.le_refl _) (.cells #[] 9))
  go_enter Tryz.func13, Tryz.ntmps13
  go_wp2_with fail
  go_loopg [3, 4] n (fun gg v3 v wr => ∃ (j m : Nat) (O : List ByteArray), v = .int .i64 j ∧ j ≤ n ∧ n - j ≤ gg ∧ m ≤ j ∧ Hid (wr.ownsRow w.heap.size 9 1 v3 m (O.map Value.string)) ∧ Hid (Rising O) ∧ Hid (∀ x, x ∈ O ↔ x ∈ l.take j) ∧ Hid (Below w.heap.size w wr))
  case atStart => exact ⟨0, 0, [], rfl, by omega, by omega, by omega, HO, Lib.hid List.Pairwise.nil, Lib.hid (by simp), HB⟩
  case round =>
    obtain ⟨j, m, O, rfl, hjN, hgg, hmj, ho, hup, hmem, hb⟩ := hrel
    obtain ⟨G, cG, hG⟩ := own_form ho.out
    subst hG
    have hz := hb.out.size
    have hOl : O.length = m := by have := ho.out.1; simpa using this
    by_cases hlt : j < n
    · have t1 : decide (j < n) = true := decide_eq_true hlt
      obtain ⟨b, o, rfl, hbb, hc⟩ := HALL.out (by omega)
      have hj : j < l.length := by rw [HL.out]; exact hlt
      have kc := hc j hj
      have HKC : Hid (∀ v : World, Below w.heap.size w v → v.cell? ⟨b, o + j, none⟩ = some (.string l[j])) := Lib.hid fun v hv => (hv.cell (p := ⟨b, o + j, none⟩) hbb).trans kc
      have k1 := HKC.out wr hb.out
      have HTK := Lib.hid (show l.take (j + 1) = l.take j ++ [l[j]] from List.take_succ_eq_append_getElem hj)
      clear kc
      generalize l[j] = x at k1 HTK HKC
      have HOB := Lib.hid (Rs.one wr x 9)
      have HO2 := Lib.hid (ho.out.alloc (.cells #[.string x] 9))
      clear hc
      go_wp2_with fail
      refine (place_any wr G m cG O (Rs.of_own ho.out) (by omega) x).mono ?_; rintro e wz ⟨⟨r, rfl, hp⟩, rfl⟩
      rcases hp with ⟨i, rfl, hi⟩ | ⟨rfl, hnx⟩
      · have HM2 : Hid (∀ y, y ∈ O ↔ y ∈ l.take (j + 1)) := Lib.hid (fun y => by
          rw [HTK.out, List.mem_append, ← hmem.out y, List.mem_singleton]
          exact ⟨.inl, fun h => h.elim id fun e => e ▸ List.mem_of_getElem? hi⟩)
        have t2 : decide ((0 : Int) ≤ i) = true := decide_eq_true (by omega)
        clear hi
        go_wp2_with fail
        go_roundg (n - (j + 1))
        case measure => omega
        case rel => exact ⟨j + 1, m, O, by go_num, by omega, by omega, by omega, ho, hup, HM2, hb⟩
      · have HNX := Lib.hid hnx
        clear hnx
        go_wp2_with (at_builtin; refine wpList_str _ rfl (.tmp 20) (.tmp 25) rfl w.heap.size _ m _ rfl HO2.out _ _ _ [x] rfl HOB.out (by omega) (by simp; omega) ?_; intro G2 c3 w3 ho3 hg3 _)
        have HB3 := Lib.hid (push_ hb.out (Nat.le_refl _) ho.out hg3)
        have HO3 := Lib.hid ho3
        obtain ⟨g, cc, hv, hgb, hgl⟩ := ho3.form (by omega)
        injection hv with hv _ hv3
        subst hv hv3
        have k3 := HKC.out w3 HB3.out
        clear ho3 hg3
        go_wp2_with fail
        go_loopg [5] m (fun gg v5 wr => ∃ k : Nat, v5 = .int .i64 k ∧ k ≤ m ∧ k ≤ gg ∧ Hid (wr.ownsRow w.heap.size 9 1 (.slice (some ⟨g, 0, none⟩) (m + 1) c3) (m + 1) ((O.take k ++ x :: O.drop k).map Value.string)) ∧ Hid (∀ y ∈ O.drop k, x.data.toList < y.data.toList) ∧ Hid (Below w.heap.size w wr))
        case atStart =>
          refine ⟨m, by go_num, Nat.le_refl _, Nat.le_refl _, Lib.hid ?_, Lib.hid (fun y hy => ?_), HB3⟩
          · rw [List.take_of_length_le (by omega), List.drop_of_length_le (by omega)]; exact HO3.out
          · rw [List.drop_of_length_le (by omega)] at hy; cases hy
        case round =>
        obtain ⟨k, rfl, hkm, hgk, hown, hhi, hb2⟩ := hrel
        have kx := HKC.out wr hb2.out
        have HEND : Hid ((∀ (i : Nat) (y : ByteArray), k = i + 1 → O[i]? = some y → ¬ x.data.toList < y.data.toList) → Rising (O.take k ++ x :: O.drop k) ∧ (∀ y, y ∈ O.take k ++ x :: O.drop k ↔ y ∈ l.take (j + 1))) := Lib.hid fun hlo => by
          refine ⟨rising_insert hup.out (by omega) HNX.out hhi.out hlo, fun y => ?_⟩
          rw [HTK.out, List.mem_append, List.mem_cons, List.mem_append, List.mem_singleton, ← hmem.out y]
          have hy : y ∈ O ↔ y ∈ O.take k ∨ y ∈ O.drop k := by rw [← List.mem_append, List.take_append_drop]
          rw [hy]
          constructor
          · rintro (h | h | h)
            · exact .inl (.inl h)
            · exact .inr h
            · exact .inl (.inr h)
          · rintro ((h | h) | h)
            · exact .inl h
            · exact .inr (.inr h)
            · exact .inr (.inl h)
        by_cases hk0 : k = 0
        · have t3 : decide (0 < k) = false := decide_eq_false (by omega)
          have HE2 := Lib.hid (HEND.out (fun i y e => by omega))
          go_wp2_with fail
          go_quiet (fail)
          go_wp2_with fail
          go_roundg (n - (j + 1))
          case measure => omega
          case rel => exact ⟨j + 1, m + 1, _, by go_num, by omega, by omega, by omega, hown, Lib.hid HE2.out.1, Lib.hid HE2.out.2, Lib.hid (bdN hb2.out nq)⟩
        · obtain ⟨i, rfl⟩ : ∃ i, k = i + 1 := ⟨k - 1, by omega⟩
          have hi : i < O.length := by omega
          have HSH := Lib.hid (shift_step O x i hi)
          have HDR := Lib.hid (List.drop_eq_getElem_cons hi)
          have hyO := List.getElem?_eq_getElem hi
          have hky := (hown.out.cellAt i (by omega)).trans (show ((O.take (i + 1) ++ x :: O.drop (i + 1)).map Value.string)[i]? = some (.string O[i]) from by
            rw [List.getElem?_map, List.getElem?_append_left (by rw [List.length_take]; omega), List.getElem?_take_of_lt (by omega), hyO]; rfl)
          have hk1 := (hown.out.cellAt (i + 1) (by omega)).trans (show ((O.take (i + 1) ++ x :: O.drop (i + 1)).map Value.string)[i + 1]? = some (.string x) from by
            rw [List.getElem?_map, List.getElem?_append_right (by rw [List.length_take]; omega), List.length_take, show i + 1 - min (i + 1) O.length = 0 from by omega]; rfl)
          generalize O[i] = y at HSH HDR hyO hky
          have hyx : y ≠ x := fun e => HNX.out (e ▸ List.mem_of_getElem? hyO)
          have e0 : (y.toList == x.toList) = false := by rw [str_beqT]; exact decide_eq_false hyx
          have t3 : decide (0 < i + 1) = true := decide_eq_true (by omega)
          by_cases hxy : x.data.toList < y.data.toList
          · have e1 : Op.bytesLess y.toList x.toList = false := by rw [less_ltT]; exact decide_eq_false fun h => List.lt_irrefl _ (List.lt_trans h hxy)
            have HH5 : Hid (∀ z ∈ O.drop i, x.data.toList < z.data.toList) := Lib.hid fun z hz => by
              rw [HDR.out] at hz
              rcases List.mem_cons.1 hz with rfl | h
              · exact hxy
              · exact hhi.out z h
            clear hyO hyx hxy
            go_wp2_with fail
            go_quiet (fail)
            have f1 : (wr.drewN nq).frozen? ⟨g, i + 1, none⟩ = false := hown.out.frozenAt (i + 1)
            have s1 := World.ownsRow.stored (w := wr.drewN nq) hown.out (i + 1) (.string y)
            have HB4 := Lib.hid (Below.grown (bdN hb2.out nq) s1.2 hb2.out.size (fun k e => by cases e; exact hgb))
            have kx2 := HKC.out _ HB4.out
            have f2 := s1.1.frozenAt i
            have hk2 := (s1.1.cellAt i (by omega)).trans ((List.getElem?_set_ne (by omega)).trans ((hown.out.cellAt i (by omega)).symm.trans hky))
            have s2 := s1.1.stored i (.string x)
            have HB5 := Lib.hid (HB4.out.grown s2.2 HB4.out.size (fun k e => by cases e; exact hgb))
            rw [← List.map_set, ← List.map_set, HSH.out] at s2
            have HO5 := Lib.hid s2.1
            clear s1 s2
            go_wp2_with fail
            go_roundg i
            case measure => omega
            case rel => exact ⟨i, by go_num, by omega, Nat.le_refl _, HO5, HH5, HB5⟩
          · have e1 : Op.bytesLess y.toList x.toList = true := by
              rw [less_ltT]
              refine decide_eq_true ?_
              rcases List.le_iff_lt_or_eq.1 (List.not_lt.1 hxy) with h | h
              · exact h
              · exact absurd (key_inj h) hyx
            have HE2 := Lib.hid (HEND.out (fun i' z e hz => by
              obtain rfl : i = i' := by omega
              rw [hyO] at hz; injection hz with hz; rw [← hz]; exact hxy))
            clear hyO hyx hxy
            go_wp2_with fail
            go_quiet (fail)
            go_wp2_with fail
            go_roundg (n - (j + 1))
            case measure => omega
            case rel => exact ⟨j + 1, m + 1, _, by go_num, by omega, by omega, by omega, hown, Lib.hid HE2.out.1, Lib.hid HE2.out.2, Lib.hid (bdN hb2.out nq)⟩
    · have t1 : decide (j < n) = false := decide_eq_false hlt
      have hjl : j = n := by omega
      have HW : Hid (IsWords O l) := Lib.hid ⟨hup.out, fun x => by
        have h := hmem.out x
        rwa [List.take_of_length_le (by rw [HL.out]; omega)] at h⟩
      go_wp2_with fail
      go_ret
      exact ⟨_, _, _, O, rfl, ho.out, HW.out, by omega, hb.out⟩
end Go.Proofs.YtmejoococajikaaGreat

/- The disk's words: a file; what a map of files reads as; a row of files by rising paths. -/
namespace Go.Proofs.YtmejoococajikaaGreat
open Go.RowKit

/-- A file: its path, its row, its bytes, how many are safe. -/
structure Fl where
  p : ByteArray
  A : Option Addr
  n : Nat
  c : Nat
  b : List Int
  safe : Nat
def Fl.val (f : Fl) : Value := .agg #[.slice f.A f.n f.c, .int .i64 f.safe]
def keyL (s : ByteArray) : Lit := .string s.data.toList
def Fl.ent (f : Fl) : Lit × DataW Value := (keyL f.p, .held f.val)
def dat (L : List Fl) : DataW Value := .map (L.map Fl.ent)
/-- An element of the map is held as it is. -/
def rawE (v : Value) : Option (DataW Value × List MemPlace) := some (.held v, [])
def findF (L : List Fl) (s : ByteArray) : Option Fl := L.find? fun f => decide (f.p = s)
def delF (L : List Fl) (s : ByteArray) : List Fl := L.filter fun f => !decide (f.p = s)
def befF (s t : ByteArray) : Bool := bytesBefore s.data.toList t.data.toList
def insF (f : Fl) : List Fl → List Fl
  | [] => [f]
  | g :: r => if befF f.p g.p then f :: g :: r else g :: insF f r
def SortF (L : List Fl) : Prop := L.Pairwise fun f g => befF f.p g.p = true

theorem bytes_ext {s t : ByteArray} (h : s.data.toList = t.data.toList) : s = t := by
  cases s; cases t
  simp only [ByteArray.mk.injEq]
  exact Array.toList_inj.1 h
theorem same_keyL (s t : ByteArray) : (keyL s).sameKey (keyL t) = decide (s = t) := by
  show (s.data.toList == t.data.toList) = _
  by_cases h : s = t
  · subst h; simp
  · rw [decide_eq_false h, beq_eq_false_iff_ne]
    exact fun e => h (bytes_ext e)
theorem keyL_lit (s : ByteArray) : WideAt.IsKeyLit (keyL s) := trivial
theorem dat_atKey (L : List Fl) (s : ByteArray) (z : DataW Value) : (dat L).atKey (keyL s) z = match findF L s with | some f => .held f.val | none => z := by
  unfold dat DataW.atKey findF
  dsimp only
  rw [List.find?_map]
  have e : ((fun p : Lit × DataW Value => p.1.sameKey (keyL s)) ∘ Fl.ent) = fun f => decide (f.p = s) := by
    funext f; exact same_keyL _ _
  rw [e]
  cases L.find? fun f => decide (f.p = s) <;> rfl
theorem dat_has (L : List Fl) (s : ByteArray) : Maps.has (dat L) (keyL s) = (findF L s).isSome := by
  unfold dat findF
  rw [Maps.has_eq, List.any_map]
  have e : ((fun p : Lit × DataW Value => p.1.sameKey (keyL s)) ∘ Fl.ent) = fun f => decide (f.p = s) := by
    funext f; exact same_keyL _ _
  rw [e, List.isSome_find?]
theorem dat_size (L : List Fl) : Maps.size (dat L) = L.length := by
  unfold dat; rw [Maps.size_eq, List.length_map]
theorem filt_ent (L : List Fl) (s : ByteArray) : (L.map Fl.ent).filter (fun p => !p.1.sameKey (keyL s)) = (delF L s).map Fl.ent := by
  unfold delF
  rw [List.filter_map]
  have e : ((fun p : Lit × DataW Value => !p.1.sameKey (keyL s)) ∘ Fl.ent) = fun f => !decide (f.p = s) := by
    funext f
    show (!(keyL f.p).sameKey (keyL s)) = _
    rw [same_keyL]
  rw [e]
theorem dat_del (L : List Fl) (s : ByteArray) : (dat L).del (keyL s) = dat (delF L s) := by
  unfold dat DataW.del
  dsimp only
  rw [filt_ent]
theorem insert_ent (f : Fl) (L : List Fl) : DataW.insert f.ent (L.map Fl.ent) = (insF f L).map Fl.ent := by
  induction L with
  | nil => rfl
  | cons g r ih =>
    rw [List.map_cons, DataW.insert, insF]
    have e : f.ent.1.before g.ent.1 = befF f.p g.p := rfl
    rw [e, ih]
    split <;> rfl
theorem dat_put (L : List Fl) (f : Fl) : (dat L).put (keyL f.p) (.held f.val) = dat (insF f (delF L f.p)) := by
  unfold dat DataW.put
  dsimp only
  rw [filt_ent]
  exact congrArg _ (insert_ent f _)

theorem bef_irrefl : ∀ l : List UInt8, bytesBefore l l = false := by
  intro l
  induction l with
  | nil => rfl
  | cons a r ih => simp [bytesBefore, ih]
theorem befF_irrefl (s : ByteArray) : befF s s = false := WideAt.bytes_irrefl _
theorem befF_trans {s t u : ByteArray} (h : befF s t = true) (k : befF t u = true) : befF s u = true := WideShapes.bytes_trans _ _ _ h k
theorem befF_asymm {s t : ByteArray} (h : befF s t = true) : befF t s = false := by
  cases k : befF t s
  · rfl
  · have := befF_trans h k; rw [befF_irrefl] at this; cases this
theorem befF_total {s t : ByteArray} (h : s ≠ t) : befF s t = true ∨ befF t s = true := WideAt.bytes_total _ _ (fun e => h (bytes_ext e))
theorem befF_ne {s t : ByteArray} (h : befF s t = true) : s ≠ t := by rintro rfl; rw [befF_irrefl] at h; cases h
theorem findF_some {L : List Fl} {s : ByteArray} {f : Fl} (h : findF L s = some f) : f ∈ L ∧ f.p = s :=
  by
  unfold findF at h
  have h2 := List.find?_some h
  exact ⟨List.mem_of_find?_eq_some h, by simpa using h2⟩
theorem findF_none {L : List Fl} {s : ByteArray} (h : findF L s = none) : ∀ f ∈ L, f.p ≠ s := fun f hf => by
  have := List.find?_eq_none.1 h f hf
  simpa using this
theorem delF_none {L : List Fl} {s : ByteArray} (h : ∀ f ∈ L, f.p ≠ s) : delF L s = L := by
  unfold delF
  rw [List.filter_eq_self]
  intro f hf
  simp [h f hf]
theorem setF_none {L : List Fl} {g : Fl} (h : ∀ f ∈ L, f.p ≠ g.p) : (L.map fun x => if x.p = g.p then g else x) = L := by
  have : (L.map fun x => if x.p = g.p then g else x) = L.map id := List.map_congr_left fun f hf => by rw [if_neg (h f hf)]; rfl
  rw [this, List.map_id]
/-- A store at a path that is there. -/
theorem put_there {L : List Fl} {g : Fl} (hs : SortF L) (h : ∃ f ∈ L, f.p = g.p) : insF g (delF L g.p) = L.map fun x => if x.p = g.p then g else x := by
  induction L with
  | nil => obtain ⟨f, hf, _⟩ := h; cases hf
  | cons x r ih =>
    obtain ⟨hx, hr⟩ := List.pairwise_cons.1 hs
    by_cases e : x.p = g.p
    · have hno : ∀ f ∈ r, f.p ≠ g.p := fun f hf k => befF_ne (hx f hf) (e.trans k.symm)
      have e1 : delF (x :: r) g.p = r := by
        unfold delF
        rw [List.filter_cons_of_neg (by simp [e])]
        exact delF_none hno
      rw [e1, List.map_cons, if_pos e, setF_none hno]
      cases r with
      | nil => rfl
      | cons y t =>
        have := hx y List.mem_cons_self
        rw [e] at this
        rw [insF, if_pos this]
    · obtain ⟨f, hf, hfp⟩ := h
      have hf' : f ∈ r := by
        rcases List.mem_cons.1 hf with rfl | k
        · exact absurd hfp e
        · exact k
      have e1 : delF (x :: r) g.p = x :: delF r g.p := by
        unfold delF
        rw [List.filter_cons_of_pos (by simp [e])]
      have h1 := hx f hf'
      rw [hfp] at h1
      rw [e1, insF, if_neg (by rw [befF_asymm h1]; simp), ih hr ⟨f, hf', hfp⟩, List.map_cons, if_neg e]
theorem put_new {L : List Fl} {g : Fl} (h : findF L g.p = none) : insF g (delF L g.p) = insF g L := by
  rw [delF_none (findF_none h)]
theorem insF_len (g : Fl) (L : List Fl) : (insF g L).length = L.length + 1 := by
  induction L with
  | nil => rfl
  | cons x r ih => rw [insF]; split <;> simp [ih]
theorem insF_mem {g f : Fl} {L : List Fl} (h : f ∈ insF g L) : f = g ∨ f ∈ L := by
  induction L with
  | nil => rw [insF] at h; simpa using h
  | cons x r ih =>
    rw [insF] at h
    split at h
    · simpa using h
    · rcases List.mem_cons.1 h with rfl | k
      · exact .inr List.mem_cons_self
      · rcases ih k with rfl | k
        · exact .inl rfl
        · exact .inr (List.mem_cons_of_mem _ k)

section
variable {w : World} {b n : Nat}
open Go.Maps Go.WideElems Go.ChangeMaps Go.MapKept
/-- The bound is the map's size. -/
theorem own_tight {H : Type} {P : Program} {k : TypeId} {R : Value → Option (DataW H × List MemPlace)} {D : DataW H} (h : w.ownsMap P k R b n D) : w.ownsMap P k R b (Maps.size D) D := by
  obtain ⟨es, clock, hb, F, hs, rfl⟩ := h
  refine ⟨es, clock, hb, F, ?_, rfl⟩
  rw [Maps.size_eq, length_sorted]; simp
theorem own_sort {P : Program} {k : TypeId} {L : List Fl} (K : Keyed P k) (h : w.ownsMap P k rawE b n (dat L)) : SortF L := by
  obtain ⟨es, he, hp, _⟩ := h.canon K
  unfold dat at he
  injection he with he
  subst he
  exact List.pairwise_map.1 hp
/-- A store at a key that is there, while the map is ranged over. -/
theorem ranges_store {H : Type} {P : Program} {k t e : TypeId} {R : Value → Option (DataW H × List MemPlace)} {D : DataW H} {r cnt : Nat} {left : Lit → Bool} (h : w.ranges P k R b r n D left cnt) (K : Keyed P k) (ht : P.underlying t = some (.map k e)) (hn : n < maxLen)
    {key val : Value} {kl : Lit} {d : DataW H} {ps : List MemPlace} (hkey : keyOf P k key = some kl) (hv : R val = some (d, ps)) (hh : Maps.has D kl = true) :
    ∃ w', (Instr.mapUpdate t (.map (some b)) key val).run P w = .ok () w' ∧ w'.ranges P k R b r n (D.put kl d) left cnt ∧ w.mapTurned w' b := by
  have hne := h.ne
  obtain ⟨es, clock, since, seen, c0, hb, F, hs, rfl, hr, hborn, hcnt, hl1, hl2, hc1, hc2⟩ := h
  obtain ⟨es', clock', hrun, F', hput, _, _, hwho⟩ := Maps.fit_store (R' := R) K ht hb F (Nat.lt_of_le_of_lt hs hn) (fun _ _ _ _ hz => hz) hkey hv
  have hthere : ∃ x ∈ es.toList, x.key = key := by
    rw [Maps.has_eq, List.any_eq_true] at hh
    obtain ⟨p, hp, hpk⟩ := hh
    obtain ⟨x, hx, rfl⟩ := List.mem_map.1 (mem_sorted.1 hp)
    obtain ⟨y, hy⟩ := F.reads x hx
    have e1 := WideAt.sameKey_eq hpk
    rw [rg_of hy] at e1
    exact ⟨x, hx, K.inj (e1 ▸ rd_key hy) hkey⟩
  rcases K.find w hkey es.toList F.keys with ⟨h1, h2⟩ | ⟨j, e0, h1, h2, h3⟩
  · obtain ⟨x, hx, hxk⟩ := hthere
    exact absurd hxk (h2 x hx)
  · have hj : es[j]? = some e0 := by simpa using h2
    have hrun2 : (Instr.mapUpdate t (.map (some b)) key val).run P w = .ok () (setBlock w b (.map (es.modify j (fun e' => { e' with key := key, val := val })) clock)) := by
      simp [Instr.mapUpdate, run_underlying ht, MapKept.run_getObj_map hb, K.check w false hkey, h1, hj, h3, K.stays w hkey, MapKept.run_setObj_map _ hb, Result.andThen, setBlock]
    rw [hrun2] at hrun
    injection hrun with _ hw
    have hob := congrArg (fun x : World => x.heap[b]?) hw
    simp only [heap_setBlock_same hb] at hob
    injection hob with hob
    injection hob with hes hclk
    subst hes hclk
    have hfi : (es.modify j (fun e' => { e' with key := key, val := val })).toList.map (fun x => (x.born, (rg P k R x).1)) = es.toList.map (fun x => (x.born, (rg P k R x).1)) := by
      have hke : (rg P k R { e0 with key := key, val := val }).1 = (rg P k R e0).1 := by
        obtain ⟨y, hy⟩ := F.reads e0 (List.mem_of_getElem? h2)
        have e1 := rd_key hy
        rw [h3, hkey] at e1
        injection e1 with e1
        rw [rg_of hy, rg_of (rd_mk hkey hv), e1]
      apply List.ext_getElem?
      intro i
      rw [List.getElem?_map, List.getElem?_map, Array.toList_modify, List.getElem?_modify]
      by_cases e : j = i
      · subst e
        rw [h2]
        simp [hke]
      · simp [e]
    refine ⟨_, hrun2, ⟨_, clock, since, seen, c0, heap_setBlock_same hb _, F', by simpa using hs, by rw [DataW.put_eq, hput], (heap_setBlock_other hb _ hne).trans hr, ?_, ?_, ?_, ?_, hc1, hc2⟩, ⟨es, clock, _, _, hb, rfl⟩⟩
    · intro x hx
      have hm := List.mem_map_of_mem (f := fun x => (x.born, (rg P k R x).1)) hx
      rw [hfi] at hm
      obtain ⟨y, hy, he⟩ := List.mem_map.1 hm
      have e1 : y.born = x.born := congrArg Prod.fst he
      rw [← e1]; exact hborn y hy
    · rw [← hcnt]
      unfold leftOf
      have hsz : ∀ a : Array MapEntry, (a.filter fun e => !seen.contains e.born).size = ((a.toList.map (fun x => (x.born, (rg P k R x).1))).filter fun q => !seen.contains q.1).length := by
        intro a
        rw [List.filter_map, List.length_map, ← Array.length_toList, Array.toList_filter]
        rfl
      rw [hsz, hsz, hfi]
    · intro x hx
      have hm := List.mem_map_of_mem (f := fun x => (x.born, (rg P k R x).1)) hx
      rw [hfi] at hm
      obtain ⟨y, hy, he⟩ := List.mem_map.1 hm
      have e1 : y.born = x.born := congrArg Prod.fst he
      have e2 : (rg P k R y).1 = (rg P k R x).1 := congrArg Prod.snd he
      rw [← e1, ← e2]; exact hl1 y hy
    · intro kl' hk'
      obtain ⟨y, hy, he⟩ := hl2 kl' hk'
      have hm := List.mem_map_of_mem (f := fun x => (x.born, (rg P k R x).1)) hy
      rw [← hfi] at hm
      obtain ⟨x, hx, hex⟩ := List.mem_map.1 hm
      have e2 : (rg P k R x).1 = (rg P k R y).1 := congrArg Prod.snd hex
      exact ⟨x, hx, e2.trans he⟩
end
end Go.Proofs.YtmejoococajikaaGreat

/- Texts: the map from words to their places. -/
namespace Go.Proofs.YtmejoococajikaaGreat
open Go.RowKit

def entW (p : ByteArray × Nat) : Lit × DataW Value := (keyL p.1, .lit (.int .i64 (p.2 : Int)))
def datW (L : List (ByteArray × Nat)) : DataW Value := .map (L.map entW)
theorem datW_size (L : List (ByteArray × Nat)) : Maps.size (datW L) = L.length := by
  unfold datW; rw [Maps.size_eq, List.length_map]
theorem datW_at (L : List (ByteArray × Nat)) (s : ByteArray) (z : DataW Value) : (datW L).atKey (keyL s) z = match L.find? (fun p => decide (p.1 = s)) with | some p => .lit (.int .i64 (p.2 : Int)) | none => z := by
  unfold datW DataW.atKey
  dsimp only
  rw [List.find?_map]
  have e : ((fun p : Lit × DataW Value => p.1.sameKey (keyL s)) ∘ entW) = fun p => decide (p.1 = s) := by
    funext p; exact same_keyL _ _
  rw [e]
  cases L.find? (fun p => decide (p.1 = s)) <;> rfl
theorem insert_last (s : ByteArray) (i : Nat) (L : List (ByteArray × Nat)) (h : ∀ p ∈ L, p.1.data.toList < s.data.toList) : DataW.insert (entW (s, i)) (L.map entW) = (L ++ [(s, i)]).map entW := by
  induction L with
  | nil => rfl
  | cons g r ih =>
    rw [List.map_cons, DataW.insert]
    have hg := h g List.mem_cons_self
    have e : (entW (s, i)).1.before (entW g).1 = bytesBefore s.data.toList g.1.data.toList := rfl
    have e2 : bytesBefore s.data.toList g.1.data.toList = false := by
      cases hb : bytesBefore s.data.toList g.1.data.toList with
      | false => rfl
      | true => exact absurd (List.lt_trans ((before_lt _ _).1 hb) hg) (List.lt_irrefl _)
    rw [e, e2, ih fun p hp => h p (List.mem_cons_of_mem _ hp)]
    rfl
theorem datW_put (L : List (ByteArray × Nat)) (s : ByteArray) (i : Nat) (h : ∀ p ∈ L, p.1.data.toList < s.data.toList) : (datW L).put (keyL s) (.lit (.int .i64 (i : Int))) = datW (L ++ [(s, i)]) := by
  unfold datW DataW.put
  dsimp only
  have e : (L.map entW).filter (fun p => !p.1.sameKey (keyL s)) = L.map entW := by
    rw [List.filter_eq_self]
    intro p hp
    obtain ⟨g, hg, rfl⟩ := List.mem_map.1 hp
    show (!(keyL g.1).sameKey (keyL s)) = true
    rw [same_keyL, decide_eq_false]
    · rfl
    · rintro rfl
      exact List.lt_irrefl _ (h g hg)
  rw [e]
  exact congrArg DataW.map (insert_last s i L h)
/-- The words, each with its place. -/
def zipW (W : List ByteArray) (j : Nat) : List (ByteArray × Nat) := (W.take j).zipIdx
theorem zipW_len (W : List ByteArray) (j : Nat) (h : j ≤ W.length) : (zipW W j).length = j := by unfold zipW; rw [List.length_zipIdx, List.length_take]; omega
theorem zipW_step {W : List ByteArray} {j : Nat} (h : j < W.length) : zipW W (j + 1) = zipW W j ++ [(W[j], j)] := by
  unfold zipW
  rw [List.take_succ_eq_append_getElem h, List.zipIdx_append, List.length_take]
  simp [Nat.min_eq_left (Nat.le_of_lt h)]
theorem zipW_low {W : List ByteArray} (hW : Rising W) {j : Nat} (h : j < W.length) : ∀ p ∈ zipW W j, p.1.data.toList < W[j].data.toList := fun p hp => by
  have h1 : p.1 ∈ W.take j := List.fst_mem_of_mem_zipIdx hp
  obtain ⟨i, hi, e⟩ := List.mem_iff_getElem.1 h1
  rw [List.length_take] at hi
  rw [List.getElem_take] at e
  rw [← e]
  exact List.pairwise_iff_getElem.1 hW i j (by omega) h (by omega)
theorem zipW_find {W : List ByteArray} (hW : Rising W) {s : ByteArray} (hs : s ∈ W) : (zipW W W.length).find? (fun p => decide (p.1 = s)) = some (s, idxT W s) := by
  have hg := idxT_get hs
  have hm : (s, idxT W s) ∈ zipW W W.length := by
    unfold zipW
    rw [List.take_length]
    exact List.mem_zipIdx_iff_getElem?.2 hg
  cases hf : (zipW W W.length).find? (fun p => decide (p.1 = s)) with
  | none => exact absurd (List.find?_eq_none.1 hf _ hm) (by simp)
  | some q =>
    have h1 := List.find?_some hf
    have h2 := List.mem_of_find?_eq_some hf
    have h1 : q.1 = s := of_decide_eq_true h1
    unfold zipW at h2
    rw [List.take_length] at h2
    have h3 := List.mem_zipIdx_iff_getElem?.1 h2
    rw [h1] at h3
    have := nodup_get hW.nodup h3 hg
    exact congrArg some (Prod.ext h1 this)
theorem keyed_t : Maps.Keyed Tryz.prog 9 := Maps.string_keyed Tryz.underlying9
theorem key_ofT {s : ByteArray} (h : s.size ≤ maxLen) : keyOf Tryz.prog 9 (.string s) = some (keyL s) := WideMaps.keyOf_string_mk Tryz.underlying9 h
end Go.Proofs.YtmejoococajikaaGreat

/- Plain laws on a number a few times. -/
namespace Go.Proofs.YtmejoococajikaaGreat
open Go.RowKit

theorem foldU_hiB (u k : Nat) : foldU (hiB u k) = u % 256 ^ k := by
  induction k with
  | zero => simp [hiB, foldU, Nat.mod_one]
  | succ k ih =>
    unfold hiB
    rw [foldU_cons _ _ (hiB_u8 u k), ih, hiB_len, Nat.pow_succ, Nat.mod_mul]
    have e : (2 : Int) ^ (8 * k) = ((256 ^ k : Nat) : Int) := by
      rw [show (256 : Nat) = 2 ^ 8 from rfl, ← Nat.pow_mul, Int.natCast_pow]; rfl
    rw [e, ← Int.natCast_ediv, show ((u / 256 ^ k : Nat) : Int) % 256 = ((u / 256 ^ k % 256 : Nat) : Int) from rfl, Int.toNat_natCast]
    omega
theorem longN_pow (u : Nat) : u < 256 ^ longN u := by
  have h := blen_lt u
  have e : (256 : Nat) ^ longN u = 2 ^ (8 * longN u) := by rw [show (256 : Nat) = 2 ^ 8 from rfl, ← Nat.pow_mul]
  rw [e]
  exact Nat.lt_of_lt_of_le h (Nat.pow_le_pow_right (by omega) (by unfold longN; omega))
theorem takeR_put (u : Nat) (t : Int) (s : Bool) (behind : List Int) (ht1 : 3 ≤ t) (ht2 : t ≤ 10) (hu : u < 18446744073709551616) (hs : s = false → u < 9223372036854775808) :
    takeR (((8 * ((longN u : Int) - 1) + t - 3) :: hiB u (longN u)) ++ behind) s = (if s then zag u else u, t, behind, 0) := by
  have hl := longN_range u hu
  unfold takeR
  simp only [List.cons_append]
  have h1 : ((8 * ((longN u : Int) - 1) + t - 3) / 8 + 1).toNat = longN u := by omega
  have h2 : (8 * ((longN u : Int) - 1) + t - 3) % 8 + 3 = t := by omega
  have h3 : (hiB u (longN u) ++ behind).take (longN u) = hiB u (longN u) := by
    rw [List.take_append_of_le_length (by rw [hiB_len]; exact Nat.le_refl _), List.take_of_length_le (by rw [hiB_len]; exact Nat.le_refl _)]
  have h4 : (hiB u (longN u) ++ behind).drop (longN u) = behind := by
    rw [List.drop_append_of_le_length (by rw [hiB_len]; exact Nat.le_refl _), List.drop_of_length_le (by rw [hiB_len]; exact Nat.le_refl _), List.nil_append]
  rw [if_neg (by omega), h1, h3, h4, foldU_hiB, Nat.mod_eq_of_lt (longN_pow u), h2, if_neg (by rw [List.length_append, hiB_len]; omega), if_neg]
  rintro (h | ⟨h, h'⟩)
  · exact h rfl
  · have := hs h; omega
theorem takeR_cut (u : Nat) (t : Int) (s : Bool) (i : Nat) (ht1 : 3 ≤ t) (ht2 : t ≤ 10) (hu : u < 18446744073709551616) (hi : i < longN u + 1) :
    takeR (((8 * ((longN u : Int) - 1) + t - 3) :: hiB u (longN u)).take i) s = (0, 0, [], 2) := by
  have hl := longN_range u hu
  cases i with
  | zero => rfl
  | succ j =>
    rw [List.take_succ_cons]
    unfold takeR
    have h1 : ((8 * ((longN u : Int) - 1) + t - 3) / 8 + 1).toNat = longN u := by omega
    simp only
    rw [if_neg (by omega), h1, if_pos (by rw [List.length_take, hiB_len]; omega)]
theorem and7 (a : Int) : 0 ≤ bits BinOp.and IntKind.i64 a 7 ∧ bits BinOp.and IntKind.i64 a 7 ≤ 7 := by
  have h : (BitVec.ofInt 64 a &&& BitVec.ofInt 64 7).toNat ≤ 7 := by
    rw [BitVec.toNat_and]
    exact Nat.and_le_right
  show 0 ≤ IntKind.i64.wrap ((BitVec.ofInt 64 a &&& BitVec.ofInt 64 7).toNat : Int) ∧ IntKind.i64.wrap ((BitVec.ofInt 64 a &&& BitVec.ofInt 64 7).toNat : Int) ≤ 7
  rw [IntWalk.i64_in _ (by omega)]
  omega

theorem put_take (x t : Int) (s : Bool) (ht1 : 3 ≤ t) (ht2 : t ≤ 10) (hx : -9223372036854775808 ≤ x ∧ x < 9223372036854775808) (hs : s = false → 0 ≤ x) :
    ∃ (p : List Int), putR x t s = (p, 0) ∧ U8 p ∧ 2 ≤ p.length ∧ p.length ≤ 9 ∧ (∀ behind, takeR (p ++ behind) s = (x, t, behind, 0)) ∧ ∀ i, i < p.length → takeR (p.take i) s = (0, 0, [], 2) := by
  have hz := zig_range x hx.1 hx.2
  have hp : 0 ≤ plainU x s ∧ plainU x s < 18446744073709551616 ∧ (s = false → plainU x s < 9223372036854775808) := by
    unfold plainU
    cases s
    · have := hs rfl; simp; omega
    · simp; omega
  obtain ⟨u, hu⟩ : ∃ u : Nat, (u : Int) = plainU x s := ⟨(plainU x s).toNat, by omega⟩
  have hl := longN_range u (by omega)
  have e : putR x t s = ((8 * ((longN u : Int) - 1) + t - 3) :: hiB u (longN u), 0) := by
    unfold putR
    rw [if_neg (by rintro (h | h | ⟨h, h'⟩); omega; omega; have := hs h; omega), ← hu, Int.toNat_natCast]
  refine ⟨_, e, ?_, by rw [List.length_cons, hiB_len]; omega, by rw [List.length_cons, hiB_len]; omega, ?_, ?_⟩
  · have := putR_u8 x t s hx.1 hx.2
    rwa [e] at this
  · intro behind
    rw [takeR_put u t s behind ht1 ht2 (by omega) (fun h => by have := hp.2.2 h; omega)]
    have : (if s = true then zag (u : Int) else (u : Int)) = x := by
      rw [hu]
      unfold plainU
      cases s
      · simp
      · simp [zag_zig]
    rw [this]
  · intro i hi
    rw [List.length_cons, hiB_len] at hi
    exact takeR_cut u t s i ht1 ht2 (by omega) hi
end Go.Proofs.YtmejoococajikaaGreat

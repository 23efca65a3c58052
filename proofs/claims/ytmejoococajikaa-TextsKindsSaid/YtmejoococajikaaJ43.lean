/- Joined texts: GlPut, TxL. Each has its own head line. No condition beyond those that its theorems state. -/
import Derived.Deep.RegionLaw
import Derived.Test.YtmejoococajikaaJ40
import Derived.Test.YtmejoococajikaaJ37
import Derived.Test.YtmejoococajikaaJ38
import Derived.Test.YtmejoococajikaaJ42
set_option linter.unusedVariables false

/- rle.Put. -/
namespace Go.Proofs.Ytmejoococajikaa
open Go.RowKit

/-- Bytes of the call's own and an error's number are handed back. -/
def BytesOwn (w : World) (l : List Int) (er : Int) (e : Ending) (w' : World) : Prop :=
  ∃ G n c, e = .returned (.tuple #[.slice G n c, .int .i64 er]) ∧ w'.ownsRow w.heap.size 5 1 (.slice G n c) n (l.map (Value.int .u8)) ∧ Below w.heap.size w w'
theorem own_nilB (w : World) (B : Nat) (e : TypeId) (size : Nat) : w.ownsRow B e size (.slice none 0 0) 0 ([].map (Value.int .u8)) := ⟨by simp, .inl ⟨rfl, rfl⟩⟩
theorem BytesOwn.err {w : World} {l : List Int} {er : Int} {e : Ending} {w' : World} (h : BytesOwn w l er e w') : BytesErr w l er e w' := by
  obtain ⟨G, n, c, h1, h2, h3⟩ := h
  exact ⟨G, n, c, h1, Sl.of_own h2, h3⟩
def lenS : Value → Nat
  | .slice _ n _ => n
  | _ => 0
/-- The state while numbers are laid down in runs. -/
def PutGW (w wr : World) (N : Nat) (s : Bool) (res : List Int × Int) (lv v : Value) : Prop :=
  ∃ A m c l o f, lv = .slice A m c ∧ Ri w .i64 A m l ∧ I64 l ∧ m ≤ c ∧ c ≤ 9223372036854775807 ∧ m ≤ N ∧ wr.ownsRow w.heap.size 5 1 v o.length (o.map (Value.int .u8)) ∧ Below w.heap.size w wr ∧ putF s f o l = res ∧ m < f ∧ o.length + 10 * m ≤ 10 * N
theorem I64.take {l : List Int} (h : I64 l) (k : Nat) : I64 (l.take k) := fun y hy => h y (List.mem_of_mem_take hy)
theorem I64.drop {l : List Int} (h : I64 l) (k : Nat) : I64 (l.drop k) := fun y hy => h y (List.mem_of_mem_drop hy)

set_option maxRecDepth 100000 in
set_option maxHeartbeats 2000000 in
theorem PutGl_own (w : World) (A : Option Addr) (n cap : Nat) (l : List Int) (hr : Ri w .i64 A n l) (hu : I64 l) (hc : n ≤ cap) (hm : cap ≤ 9223372036854775807) (hn : n ≤ 1000000) (s : Bool) (r : List Int) (er : Int) (hp : putGl l s = (r, er)) :
    Calls Try.prog 31 #[.slice A n cap, .bool s] w (BytesOwn w r er) := by
  have HR := Lib.hid hr; have HU := Lib.hid hu; have HN := Lib.hid hr.len
  clear hr hu
  unfold putGl at hp
  rw [HN.out] at hp
  by_cases hbig : 4096 < n
  · rw [if_pos hbig] at hp
    injection hp with e1 e2
    subst e1 e2
    go_enter Try.func31, Try.ntmps31
    go_wp2_with fail
    go_ret2
    exact ⟨none, 0, 0, rfl, own_nilB _ _ _ _, Below.refl _ _⟩
  · rw [if_neg hbig] at hp
    have HP := Lib.hid hp
    clear hp
    go_enter Try.func31, Try.ntmps31
    go_wp2_with fail
    go_loopw [0, 6] (fun b v wr => Hid (PutGW w wr n s (r, er) b v)) (fun b _ _ => lenS b)
    case atStart => exact ⟨A, n, cap, l, [], n + 1, rfl, HR.out, HU.out, hc, hm, Nat.le_refl _, World.ownsRow_nil _ _ _ _, Below.refl _ _, HP.out, Nat.lt_succ_self _, by simp⟩
    case round =>
      obtain ⟨A1, n1, c1, l1, o, f, rfl, hr1, hu1, hc1, hcm1, hn1, ho, hb, hd, hf, hol⟩ := hrel.out
      obtain ⟨G, gc, rfl⟩ := own_form ho
      have hgc := own_cap ho
      have HR1 := Lib.hid hr1; have HU1 := Lib.hid hu1; have HO := Lib.hid ho; have HB := Lib.hid hb; have HL1 := Lib.hid hr1.len
      obtain ⟨f, rfl⟩ : ∃ g, f = g + 1 := ⟨f - 1, by omega⟩
      simp only [putF] at hd
      rw [HL1.out] at hd
      clear hrel hr1 hu1 ho hb
      by_cases h0 : n1 = 0
      · subst h0
        rw [if_pos rfl] at hd
        injection hd with e1 e2
        subst e1 e2
        go_wp2_with fail
        go_ret2
        exact ⟨_, _, _, rfl, HO.out, HB.out⟩
      · rw [if_neg h0] at hd
        obtain ⟨b, of, hA, hbl, _⟩ := HR1.out.all (by omega)
        subst hA
        have HCALL := Lib.hid (Cut_any wr _ n1 c1 l1 (HR1.out.below HB.out) hc1 hcm1 (by omega))
        have hcr := cutL_range l1 (by rw [HL1.out]; omega)
        rw [HL1.out] at hcr
        obtain ⟨K, hK⟩ : ∃ K, K = cutL l1 := ⟨_, rfl⟩
        rw [← hK] at hd HCALL hcr
        have hrc := run_cases (l1.take K) s (HU1.out.take K)
        rw [List.length_take, HL1.out, Nat.min_eq_left (by omega)] at hrc
        obtain ⟨q, e, hq⟩ : ∃ q e, runR (l1.take K) s = (q, e) := ⟨_, _, rfl⟩
        have HQ := Lib.hid hq
        rw [hq] at hd hrc
        clear hq hK
        go_wp2_with fail
        refine HCALL.out.mono ?_; rintro e1 w1 ⟨rfl, hb1⟩
        have HB1 := Lib.hid (on HB.out hb1)
        have HO1 := Lib.hid (own_below HO.out hb1)
        clear hb1
        go_wp2_with fail
        refine (Run_any _ _ K c1 (l1.take K) ((HR1.out.first (by omega)).below HB1.out) (HU1.out.take K) (by omega) hcm1 (by omega) s q e HQ.out).mono ?_; rintro e1 w2 ⟨G2, n2, c2, rfl, hs2, hb2⟩
        have HB2 := Lib.hid (on HB1.out hb2)
        have HO2 := Lib.hid (own_below HO1.out hb2)
        have HS2 := Lib.hid hs2
        have hn2 := hs2.1.len
        have hz2 := HB2.out.size
        clear hb2 hs2
        rcases hrc with h | ⟨q', h, hql⟩
        · injection h with h1 h2
          subst h1 h2
          rw [if_pos (by decide)] at hd
          injection hd with e1 e2
          subst e1 e2
          go_wp2_with fail
          go_ret2
          exact ⟨none, 0, 0, rfl, own_nilB _ _ _ _, HB2.out⟩
        · injection h with h1 h2
          subst h1 h2
          rw [if_neg (by simp)] at hd
          have HD := Lib.hid hd
          clear hd
          go_upto_region 9 with fail
          go_region_law (first
            | (refine step_u8o rfl (.tmp 29) (.tmp 30) rfl w.heap.size _ o.length o (by kernel_rfl) (by first | exact HO2.out.drew | exact HO2.out) _ n2 c2 q (by kernel_rfl) (by first | exact HS2.out.1.drew | exact HS2.out.1) (by omega) (by simp; omega) ?_; intro G3 c3 w3 hown hgr hat; have HOWN := Lib.hid hown; have HB3 := Lib.hid (below_of_grown (by first | exact HB2.out.drew | exact HB2.out) hgr (by simp; omega) (fun k hk => (HO2.out.lt k hk).1)); clear hown hgr hat))
          all_goals
            go_wp2_with fail
          all_goals
            refine ⟨⟨_, _, _, _, Lib.hid ⟨_, _, _, l1.drop K, o ++ q, f, rfl, ?_, HU1.out.drop K, by omega, by omega, by omega, ?_, HB3.out, HD.out, by omega, ?_⟩, rfl, rfl, rfl, rfl⟩, ?_⟩
            · first
                | exact HR1.out.rest (by omega) (fun _ => rfl)
                | exact (HR1.out.rest (i := K) (by omega) (fun _ => rfl)).zero (by omega) _
            · rw [List.length_append, hn2]
              exact HOWN.out
            · rw [List.length_append, hn2]
              omega
            · show n1 - K < n1
              omega
theorem PutGl_any (w : World) (A : Option Addr) (n cap : Nat) (l : List Int) (hr : Ri w .i64 A n l) (hu : I64 l) (hc : n ≤ cap) (hm : cap ≤ 9223372036854775807) (hn : n ≤ 1000000) (s : Bool) (r : List Int) (er : Int) (hp : putGl l s = (r, er)) :
    Calls Try.prog 31 #[.slice A n cap, .bool s] w (BytesErr w r er) :=
  (PutGl_own w A n cap l hr hu hc hm hn s r er hp).mono fun _ _ h => h.err
end Go.Proofs.Ytmejoococajikaa

/- Texts: how many bytes each has, laid down (lengths); rows that lie apart. -/
namespace Go.Proofs.Ytmejoococajikaa
open Go.RowKit

theorem lensT_i64 {l : List ByteArray} (h : ∀ s ∈ l, s.size ≤ 1000000) : I64 (lensT l) := fun x hx => by
  obtain ⟨s, hs, rfl⟩ := List.mem_map.1 hx
  have := h s hs
  omega
theorem lensT_len (l : List ByteArray) : (lensT l).length = l.length := by unfold lensT; rw [List.length_map]
theorem lensT_step {l : List ByteArray} {j : Nat} (hj : j < l.length) : (lensT l).take (j + 1) = (lensT l).take j ++ [(l[j].size : Int)] := by
  rw [List.take_succ_eq_append_getElem (by rw [lensT_len]; exact hj)]
  simp [lensT]
set_option maxRecDepth 100000 in
set_option maxHeartbeats 2000000 in
theorem lengths_any (w : World) (A : Option Addr) (n c : Nat) (l : List ByteArray) (hr : Rs w A n l) (hn : n ≤ 100000) (hs : ∀ s ∈ l, s.size ≤ 1000000) (r : List Int) (er : Int) (hp : putGl (lensT l) false = (r, er)) :
    Calls Try.prog 30 #[.slice A n c] w (BytesOut w r) := by
  have HL := Lib.hid hr.len
  have HALL := Lib.hid (fun h0 => hr.all h0)
  have HP := Lib.hid hp
  have HI := Lib.hid (lensT_i64 hs)
  have HS := Lib.hid hs
  have HO : Hid (w.ownsRow w.heap.size 3 1 (.slice none 0 0) 0 (((lensT l).take 0).map (Value.int .i64))) := Lib.hid ⟨by simp, .inl ⟨rfl, rfl⟩⟩
  clear hr hp hs
  go_enter Try.func30, Try.ntmps30
  go_wp2_with fail
  go_loopg [3, 10] n (fun gg v3 v wr => ∃ j : Nat, v = .int .i64 j ∧ j ≤ n ∧ n - j ≤ gg ∧ Hid (wr.ownsRow w.heap.size 3 1 v3 j (((lensT l).take j).map (Value.int .i64))) ∧ Hid (Below w.heap.size w wr))
  case atStart => exact ⟨0, rfl, by omega, by omega, HO, Lib.hid (Below.refl _ _)⟩
  case round =>
    obtain ⟨j, rfl, hjN, hgg, ho, hb⟩ := hrel
    obtain ⟨G, cG, hG⟩ := own_form ho.out
    subst hG
    have hz := hb.out.size
    by_cases hlt : j < n
    · have t1 : decide (j < n) = true := decide_eq_true hlt
      obtain ⟨b, o, rfl, hbb, hc⟩ := HALL.out (by omega)
      have hj : j < l.length := by rw [HL.out]; exact hlt
      have k1 := (hb.out.cell (p := ⟨b, o + j, none⟩) hbb).trans (hc j hj)
      have HST := Lib.hid (lensT_step hj)
      have hxs := HS.out _ (List.getElem_mem hj)
      generalize l[j] = x at k1 HST hxs
      have HOB := Lib.hid (Rd.one wr (.int .i64 (x.size : Int)) 3)
      have HO2 := Lib.hid (own_below ho.out ((Below.refl wr.heap.size wr).alloc (Nat.le_refl _) (.cells #[.int .i64 (x.size : Int)] 3)))
      clear hc
      go_wp2_with (at_builtin; refine wpList_i64 _ rfl _ _ rfl w.heap.size _ j _ rfl HO2.out _ 1 1 [(x.size : Int)] rfl HOB.out (by omega) (by simp; omega) ?_; intro G2 c3 w3 ho3 hg3 _)
      have HB3 := Lib.hid (push_ hb.out (Nat.le_refl _) ho.out hg3)
      rw [← HST.out] at ho3
      have HO3 := Lib.hid ho3
      clear ho3 hg3
      go_wp2_with fail
      go_roundg (n - (j + 1))
      case measure => omega
      case rel => exact ⟨j + 1, by go_num, by omega, by omega, HO3, HB3⟩
    · have t1 : decide (j < n) = false := decide_eq_false hlt
      obtain rfl : j = n := by omega
      have hcap := own_cap ho.out
      have hT : (lensT l).take j = lensT l := List.take_of_length_le (by rw [lensT_len, HL.out]; omega)
      have hri := Ri.of_own ho.out
      rw [hT] at hri
      have HRI := Lib.hid hri
      clear hT hri
      go_wp2_with fail
      refine (PutGl_any wr G j cG (lensT l) HRI.out HI.out hcap.1 hcap.2 (by omega) false r er HP.out).mono ?_; rintro e w4 ⟨G4, n4, c4, rfl, hr4, hb4⟩
      have HR4 := Lib.hid hr4
      have HB4 := Lib.hid (on hb.out hb4)
      clear hr4 hb4
      go_wp2_with fail
      go_ret
      exact ⟨_, _, _, rfl, HR4.out, HB4.out⟩
theorem strCells_bytes (s : ByteArray) : Lib.strCells s = (bytesT s).map (Value.int .u8) := by
  unfold Lib.strCells bytesT
  rw [List.map_map]
  rfl
theorem catT_step {l : List ByteArray} {j : Nat} (hj : j < l.length) : catT (l.take (j + 1)) = catT (l.take j) ++ bytesT l[j] := by
  unfold catT
  rw [List.take_succ_eq_append_getElem hj, List.flatMap_append]
  simp
theorem own_lowerT {w : World} {b b' : Nat} {e : TypeId} {s n : Nat} {v : Value} {xs : List Value} (h : w.ownsRow b e s v n xs) (hb : b' ≤ b) : w.ownsRow b' e s v n xs := by
  refine ⟨h.1, ?_⟩
  rcases h.2 with hn | ⟨g, cap, cur, hv, hbg, rest⟩
  · exact .inl hn
  · exact .inr ⟨g, cap, cur, hv, Nat.le_trans hb hbg, rest⟩
/-- Two rows of the call's own, of other elements, lie apart. -/
theorem own_apartT {w : World} {b b' : Nat} {e e' : TypeId} {s s' n m : Nat} {v u : Value} {xs ys : List Value} (h1 : w.ownsRow b e s v n xs) (h2 : w.ownsRow b' e' s' u m ys) (hne : e ≠ e') : v.ownBlock = none ∨ v.ownBlock ≠ u.ownBlock := by
  rcases h1.2 with ⟨rfl, _⟩ | ⟨g, cap, cur, rfl, _, hg, _⟩
  · exact .inl rfl
  · rcases h2.2 with ⟨rfl, _⟩ | ⟨g', cap', cur', rfl, _, hg', _⟩
    · exact .inr (by simp [Value.ownBlock])
    · refine .inr fun e0 => ?_
      have : g = g' := by simpa [Value.ownBlock] using e0
      subst this
      rw [hg] at hg'
      injection hg' with hg'
      injection hg' with _ hg'
      exact hne hg'
theorem own_twoT {w w' : World} {b b' : Nat} {e e' : TypeId} {s s' n m : Nat} {v u : Value} {xs ys : List Value} {o : Obj} (h1 : w.ownsRow b e s v n xs) (h2 : w.ownsRow b' e' s' u m ys) (hne : e ≠ e') (hg : (w.alloc o).grownBy w' u.ownBlock) : w'.ownsRow b e s v n xs :=
  (h1.alloc o).kept hg (own_apartT h1 h2 hne)
theorem own_twoZ {w w' : World} {b b' : Nat} {e e' : TypeId} {s s' n m : Nat} {v u : Value} {xs ys : List Value} (h1 : w.ownsRow b e s v n xs) (h2 : w.ownsRow b' e' s' u m ys) (hne : e ≠ e') (hg : w.grownBy w' u.ownBlock) : w'.ownsRow b e s v n xs :=
  h1.kept hg (own_apartT h1 h2 hne)
end Go.Proofs.Ytmejoococajikaa

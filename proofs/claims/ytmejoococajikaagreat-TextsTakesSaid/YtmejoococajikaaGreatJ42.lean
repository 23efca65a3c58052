/- Joined texts: TxK. Each has its own head line. No condition beyond those that its theorems state. -/
import Derived.Shelf.SlIterI.Collect
import Derived.Test.YtmejoococajikaaGreatJ34
set_option linter.unusedVariables false

/- Texts: a column's streams by their kinds (real). -/
namespace Go.Proofs.YtmejoococajikaaGreat
open Go.RowKit Go.Maps Go.Sort Go.Shelf

/-- Two rows of ints are the same. -/
theorem equalI_any (w : World) (A B : Option Addr) (n c m d : Nat) (l k : List Int) (hl : Ri w .i64 A n l) (hk : Ri w .i64 B m k) (hn : n ≤ 1000000) (hm : m ≤ 1000000) :
    Calls Tryz.prog 45 #[.slice A n c, .slice B m d] w fun e w' => e = .returned (.bool (decide (l = k))) ∧ ∃ q, w' = w.drewN q := by
  have h1 := hl.len
  have h2 := hk.len
  by_cases hnm : n = m
  · subst hnm
    rcases Nat.eq_zero_or_pos n with rfl | h0
    · have e : l = k := by rw [List.eq_nil_of_length_eq_zero h1, List.eq_nil_of_length_eq_zero h2]
      refine (Tryz.slices_Equal_int_empty A B c 0 d w (by omega)).mono ?_
      rintro e w' ⟨rfl, rfl⟩
      exact ⟨by rw [decide_eq_true e]; rfl, 0, rfl⟩
    · obtain ⟨b1, o1, rfl, _, hc1⟩ := hl.2 h0
      obtain ⟨b2, o2, rfl, _, hc2⟩ := hk.2 h0
      refine (Tryz.slices_Equal_int b1 o1 n c b2 o2 n d l k w (by omega) (by omega) (by omega) (by omega) (fun j hj => ?_) (fun j hj => ?_)).mono ?_
      · exact (hc1 j _ (by rw [List.getElem?_eq_getElem (by simpa using hj)])).trans (by rw [List.getElem_map, List.getD_eq_getElem?_getD, List.getElem?_eq_getElem hj]; rfl)
      · exact (hc2 j _ (by rw [List.getElem?_eq_getElem (by simpa using hj)])).trans (by rw [List.getElem_map, List.getD_eq_getElem?_getD, List.getElem?_eq_getElem hj]; rfl)
      · rintro e w' ⟨rfl, q, rfl⟩
        rw [List.take_of_length_le (by omega), List.take_of_length_le (by omega)]
        refine ⟨?_, q, rfl⟩
        congr 2
        by_cases h : l = k <;> simp [h]
  · refine (Tryz.slices_Equal_int_lens A B n c m d w hnm).mono ?_
    rintro e w' ⟨rfl, rfl⟩
    refine ⟨?_, 0, rfl⟩
    rw [decide_eq_false]
    rintro rfl
    exact hnm (h1.symm.trans h2)
/-- A map's keys, and how many come. -/
theorem keysI_any (mb : Nat) (w : World) :
    Calls Tryz.prog 47 #[.map (some mb)] w fun e w' => e = .returned (.func (.func 68) #[] #[.pointer (some ⟨w.heap.size, 0, none⟩)]) ∧ w' = w.alloc (.cells #[.map (some mb)] 56) :=
  (callsIn_wide (n := 5)).1 (AnyZI.keys_in Tryz.txKeys Fence.wide 5 trivial rfl (some mb) w)
theorem collI_any (w : World) (Bm mb nn : Nat) (D : DataW Value) (hBm : Bm < w.heap.size) (hm : w.cell? ⟨Bm, 0, none⟩ = some (.map (some mb))) (hown : w.ownsMap Tryz.prog 3 rawE mb nn D) (hz : Maps.size D ≤ 1000000) :
    Calls Tryz.prog 46 #[.func (.func 68) #[] #[.pointer (some ⟨Bm, 0, none⟩)]] w fun e w' => ∃ G c, e = .returned (.slice G (Maps.size D) c) ∧ Below w.heap.size w w' := by
  have hseq : SeqGives Fence.wide 2 Tryz.prog 68 #[.pointer (some ⟨Bm, 0, none⟩)] encZ (fun ss => ss.Perm (intKeys D)) (Maps.size D) w :=
    AnyZI.keys_gives (ρ := Tryz.txKeys1_ren) Tryz.txKeys1 Fence.wide _ trivial rfl (by omega) Bm mb nn D w hBm hm hown
  have cS := AnyZI.collect_in Tryz.txColl Fence.wide 4 trivial trivial rfl (by omega) 68 #[.pointer (some ⟨Bm, 0, none⟩)] trivial (enters_of Tryz.func68 (by kernel_rfl) rfl) _ _ (by unfold maxLen; omega) (by omega) w hseq
  change CallsIn _ _ Tryz.prog 46 _ _ _ at cS
  refine ((callsIn_wide (n := 4)).1 cS).mono ?_
  rintro e w' ⟨v, ss, rfl, hp, hrow, _, hb⟩
  obtain ⟨G, c, rfl⟩ := own_form hrow
  have hlen : ss.length = Maps.size D := by
    rw [hp.length_eq]
    cases D <;> simp [intKeys, Maps.size]
  exact ⟨G, c, by rw [hlen], hb⟩
/-- A map of kinds to rows: at each what came last. -/
def kvS (L : List (Int × Value)) : DataW Value := L.foldl (fun D p => D.put (.int .i64 p.1) (.held p.2)) (.map [])
theorem kvS_step (L : List (Int × Value)) (p : Int × Value) : kvS (L ++ [p]) = (kvS L).put (.int .i64 p.1) (.held p.2) := by
  unfold kvS; rw [List.foldl_append]; rfl
theorem keyed_i : Maps.Keyed Tryz.prog 3 := Maps.int_keyed Tryz.underlying3
theorem key_ofI {k : Int} (h : (Lit.int .i64 k).wf = true) : keyOf Tryz.prog 3 (.int .i64 k) = some (.int .i64 k) := by
  simp [keyOf, Tryz.underlying3, mapKey, h]
theorem size_kvS (L : List (Int × Value)) : Maps.IsMap (kvS L) ∧ Maps.size (kvS L) ≤ L.length := by
  suffices h : ∀ r : List (Int × Value), Maps.IsMap (kvS r.reverse) ∧ Maps.size (kvS r.reverse) ≤ r.length by
    have := h L.reverse
    rwa [List.reverse_reverse, List.length_reverse] at this
  intro r
  induction r with
  | nil => exact ⟨⟨[], rfl⟩, Nat.le_refl _⟩
  | cons p r ih =>
    rw [List.reverse_cons, kvS_step]
    obtain ⟨⟨es, he⟩, h2⟩ := ih
    rw [he] at h2 ⊢
    refine ⟨⟨_, rfl⟩, ?_⟩
    show (DataW.insert _ (es.filter _)).length ≤ _
    rw [length_insert]
    have := List.length_filter_le (fun q => !q.1.sameKey (.int .i64 p.1)) es
    have h3 : es.length ≤ r.length := h2
    rw [List.length_cons]
    omega
theorem StAt.vals {w : World} {A : Option Addr} {n : Nat} {S : List (Int × List Int)} (h : StAt w A n S) : ∃ L : List (Int × Value), L.length = n ∧ L.map Prod.fst = S.map Prod.fst ∧
    ∀ j (hj : j < S.length) (hl : j < L.length), (∃ G m c, L[j].2 = .slice G m c ∧ Sl w .u8 G m c S[j].2) ∧ ∀ b o, A = some ⟨b, o, none⟩ → w.cell? ⟨b, o + j * 2, none⟩ = some (.int .i64 L[j].1) ∧ w.cell? ⟨b, o + j * 2 + 1, none⟩ = some L[j].2 := by
  obtain ⟨hl, hc⟩ := h
  rcases Nat.eq_zero_or_pos n with rfl | h0
  · obtain rfl : S = [] := List.eq_nil_of_length_eq_zero hl
    exact ⟨[], rfl, rfl, fun j hj => absurd hj (by simp)⟩
  · obtain ⟨b, o, rfl, _, hc⟩ := hc h0
    refine ⟨(List.range n).map fun j => ((S.getD j (0, [])).1, (w.cell? ⟨b, o + j * 2 + 1, none⟩).getD (.slice none 0 0)), by simp, ?_, ?_⟩
    · refine List.ext_getElem (by simp [hl]) fun j h1 h2 => ?_
      simp only [List.length_map] at h1 h2
      simp [List.getD_eq_getElem?_getD, List.getElem?_eq_getElem h2]
    · intro j hj hj'
      obtain ⟨k1, G, m, c, k2, k3⟩ := hc j hj
      have e : ((List.range n).map fun j => ((S.getD j (0, [])).1, (w.cell? ⟨b, o + j * 2 + 1, none⟩).getD (.slice none 0 0)))[j] = (S[j].1, .slice G m c) := by
        simp [List.getD_eq_getElem?_getD, List.getElem?_eq_getElem hj, k2]
      rw [e]
      refine ⟨⟨G, m, c, rfl, k3⟩, fun b' o' e' => ?_⟩
      injection e' with e'
      injection e' with e1 e2
      subst e1; subst e2
      exact ⟨k1, k2⟩
def StrmOut (w : World) (n : Nat) (S : List (Int × List Int)) (K : List Int) (e : Ending) (w' : World) : Prop :=
  ∃ mb L, e = .returned (.tuple #[.map (some mb), .bool (decide (S.map Prod.fst = K) && decide (Maps.size (kvS L) = K.length))]) ∧ w'.ownsMap Tryz.prog 3 rawE mb n (kvS L) ∧ L.map Prod.fst = S.map Prod.fst ∧
    (∀ j (hj : j < S.length) (hl : j < L.length), ∃ G m c, L[j].2 = .slice G m c ∧ Sl w .u8 G m c S[j].2) ∧ w.heap.size ≤ mb ∧ Below w.heap.size w w'
set_option maxRecDepth 100000 in
set_option maxHeartbeats 8000000 in
theorem streams_any (w : World) (q t x : Int) (A : Option Addr) (n c : Nat) (S : List (Int × List Int)) (hS : StAt w A n S) (hn : n ≤ 1000) (hI : I64 (S.map Prod.fst)) (KA : Option Addr) (kn kc : Nat) (K : List Int) (hK : Ri w .i64 KA kn K) (hkn : kn ≤ 10) :
    Calls Tryz.prog 28 #[.agg #[.int .i64 q, .int .i64 t, .int .i64 x, .slice A n c], .slice KA kn kc] w (StrmOut w n S K) := by
  obtain ⟨L, hLl, hLS, hLv⟩ := hS.vals
  have hSl := hS.1
  have HSA := Lib.hid hS
  have HK := Lib.hid hK
  have HLS := Lib.hid hLS
  have HLV := Lib.hid hLv
  have HI := Lib.hid hI
  have hmm := @run_makeMap Tryz.prog
  obtain ⟨w1, hw1⟩ : ∃ w1, w1 = w.alloc (.cells #[.int .i64 q, .int .i64 t, .int .i64 x, .slice A n c] 27) := ⟨_, rfl⟩
  clear hS hK hLS hLv hI
  go_enter Tryz.func28, Tryz.ntmps28
  go_wp2_with fail
  have hz1 : w1.heap.size = w.heap.size + 1 := by rw [hw1]; simp
  have HB1 : Hid (Below w.heap.size w w1) := Lib.hid (hw1 ▸ (Below.refl w.heap.size w).alloc (Nat.le_refl _) _)
  rw [← hw1]
  clear hw1
  obtain ⟨mb, hmb⟩ : ∃ mb, mb = w.heap.size + 1 := ⟨_, rfl⟩
  obtain ⟨w2, hw2⟩ : ∃ w2, w2 = w1.alloc (.map #[] 0) := ⟨_, rfl⟩
  have HM2 : Hid (w2.ownsMap Tryz.prog 3 rawE mb 0 (kvS (L.take 0))) := Lib.hid (by
    have := World.ownsMap_made w1 Tryz.prog 3 rawE
    rw [hw2, hmb, ← hz1]; exact this)
  have HO2 : Hid (w2.ownsRow (mb + 1) 3 1 (.slice none 0 0) 0 (((L.take 0).map Prod.fst).map (Value.int .i64))) := Lib.hid ⟨by simp, .inl ⟨rfl, rfl⟩⟩
  have HB2 : Hid (Below mb w1 w2) := Lib.hid (by rw [hw2, hmb, ← hz1]; exact (Below.refl w1.heap.size w1).alloc (Nat.le_refl _) _)
  have hz2 : w2.heap.size = mb + 1 := by rw [hw2]; simp; omega
  rw [← hmb, ← hw2]
  rw [← hmb] at hz1
  have hmw : w.heap.size < mb := by omega
  clear hw2 hmb
  have HALL : Hid (0 < n → ∃ b o, A = some ⟨b, o, none⟩ ∧ b < w.heap.size) := Lib.hid (fun h0 => by obtain ⟨b, o, e, hb, _⟩ := HSA.out.2 h0; exact ⟨b, o, e, hb⟩)
  go_loopg [7, 14] n (fun gg v7 v wr => ∃ j : Nat, v = .int .i64 j ∧ j ≤ n ∧ n - j ≤ gg ∧ Hid (wr.ownsRow (mb + 1) 3 1 v7 j (((L.take j).map Prod.fst).map (Value.int .i64))) ∧ Hid (wr.ownsMap Tryz.prog 3 rawE mb j (kvS (L.take j))) ∧ Hid (Below mb w1 wr) ∧ mb + 1 ≤ wr.heap.size)
  case atStart => exact ⟨0, rfl, by omega, by omega, HO2, HM2, HB2, by omega⟩
  case round =>
  obtain ⟨j, rfl, hjn, hgg, hoa, hom, hbv, hzr⟩ := hrel
  obtain ⟨GA, cA, hGA⟩ := own_form hoa.out
  subst hGA
  by_cases hlt : j < n
  · have t1 : decide (j < n) = true := decide_eq_true hlt
    obtain ⟨b, o, rfl, hbb⟩ := HALL.out (by omega)
    have hj : j < L.length := by omega
    obtain ⟨⟨G, m, cc, hv, _⟩, hc⟩ := HLV.out j (by omega) hj
    have hk1 : ∀ y : Nat, w1.cell? ⟨b, y, none⟩ = w.cell? ⟨b, y, none⟩ := fun y => HB1.out.cell (p := ⟨b, y, none⟩) hbb
    have k1 := ((hbv.out.cell (p := ⟨b, o + j * 2, none⟩) (by show b < mb; omega)).trans (hk1 _)).trans (hc b o rfl).1
    have k2 := ((hbv.out.cell (p := ⟨b, o + j * 2 + 1, none⟩) (by show b < mb; omega)).trans (hk1 _)).trans (hc b o rfl).2
    have HWF : Hid ((Lit.int .i64 L[j].1).wf = true) := Lib.hid (by
      have h1 : L[j].1 ∈ S.map Prod.fst := by rw [← HLS.out]; exact List.mem_map_of_mem (List.getElem_mem hj)
      have h2 := HI.out _ h1
      show (decide (IntKind.i64.min ≤ L[j].1) && decide (L[j].1 ≤ IntKind.i64.max)) = true
      rw [show IntKind.i64.min = -9223372036854775808 from by decide, show IntKind.i64.max = 9223372036854775807 from by decide, decide_eq_true (by omega), decide_eq_true (by omega)]
      rfl)
    have HSTEP := Lib.hid (List.take_succ_eq_append_getElem hj)
    generalize hp : L[j] = p at k1 k2 HWF HSTEP hv
    rw [hv] at k2
    clear hc hk1
    have HBX := Lib.hid (hbv.out.alloc (by omega) (.cells #[.int .i64 p.1, .slice G m cc] 40))
    have HOX := Lib.hid (hom.out.alloc (.cells #[.int .i64 p.1, .slice G m cc] 40))
    have HRX := Lib.hid (own_below hoa.out ((Below.refl wr.heap.size wr).alloc (Nat.le_refl _) (.cells #[.int .i64 p.1, .slice G m cc] 40)))
    have hkx : (wr.alloc (.cells #[.int .i64 p.1, .slice G m cc] 40)).heap[wr.heap.size]? = some (.cells #[.int .i64 p.1, .slice G m cc] 40 (0, 0)) := newBlkT wr _
    have HKX := Lib.hid hkx
    have hzx : (wr.alloc (.cells #[.int .i64 p.1, .slice G m cc] 40)).heap.size = wr.heap.size + 1 := by simp
    clear hkx
    go_wp2_with (first
      | (at_mapUpdate; refine wpList_mapUpdate_in _ rfl _ _ _ _ rfl 3 38 keyed_i Tryz.underlying56 rawE mb j (kvS (L.take j)) rfl HOX.out (by unfold maxLen; omega) _ _ _ rfl rfl (key_ofI HWF.out) (.held p.2) [] (by rw [hv]; rfl) ?_; intro w5 ho5 ht5
         have hg5 := Lib.hid ht5.grown
         have hk5 := (hg5.out.block wr.heap.size (by omega) (fun e => by injection e with e; omega)).trans HKX.out
         have k5 : w5.cell? ⟨wr.heap.size, 0, none⟩ = some (.int .i64 p.1) := cell_blkT hk5 0
         have HB5 := Lib.hid (HBX.out.grown hg5.out (by omega) (fun k e => by injection e with e; omega))
         have hz5 := hg5.out.size
         rw [hzx] at hz5
         have hr5 : w5.ownsRow (mb + 1) 3 1 (.slice GA j cA) j (((L.take j).map Prod.fst).map (Value.int .i64)) := by
           obtain ⟨es, clock, hb, _⟩ := HOX.out
           exact HRX.out.kept hg5.out (ownsRow_ne_a HRX.out hb (fun cur e => by cases e))
         rw [← kvS_step, ← HSTEP.out] at ho5
         have HO6 := Lib.hid (ho5.alloc (.cells #[.int .i64 p.1] 3))
         have HOB := Lib.hid (Rd.one w5 (.int .i64 p.1) 3)
         have HR6 := Lib.hid (own_below hr5 ((Below.refl w5.heap.size w5).alloc (Nat.le_refl _) (.cells #[.int .i64 p.1] 3)))
         have HR7 := Lib.hid hr5
         have hz6 : (w5.alloc (.cells #[.int .i64 p.1] 3)).heap.size = w5.heap.size + 1 := by simp
         clear hk5 ho5 hr5 ht5)
      | (at_builtin; refine wpList_i64 _ rfl (.tmp 23) (.tmp 26) rfl (mb + 1) _ j _ rfl HR6.out _ 1 1 [p.1] rfl HOB.out (by omega) (by omega) ?_; intro G7 c7 w7 ho7 hg7 _))
    have hb7 := push_ HB5.out (by omega) (ownsRow_base_a HR7.out (Nat.le_succ mb)) hg7
    have hm7 := HO6.out.kept hg7 (fun e => by have := (HR7.out.lt _ e.symm).1; omega)
    have hz7 := hg7.size
    have he7 : (L.take (j + 1)).map Prod.fst = (L.take j).map Prod.fst ++ [p.1] := by rw [HSTEP.out, List.map_append]; rfl
    rw [← he7] at ho7
    have HO7 := Lib.hid ho7
    have HM7 := Lib.hid hm7
    have HB7 := Lib.hid hb7
    go_roundg (n - (j + 1))
    case measure => omega
    case rel => exact ⟨j + 1, by go_num, by omega, by omega, HO7, HM7, HB7, by omega⟩
  have t1 : decide (j < n) = false := decide_eq_false hlt
  obtain rfl : j = n := by omega
  have hri := Ri.of_own hoa.out
  have hma := hom.out
  rw [show L.take j = L from List.take_of_length_le (by omega)] at hri hma
  rw [HLS.out] at hri
  have HRI := Lib.hid hri
  have HMA := Lib.hid hma
  have HBW := Lib.hid (HB1.out.trans (hbv.out.mono (Nat.le_of_lt hmw)))
  have HKW := Lib.hid (HK.out.below HBW.out)
  have hKl := HK.out.len
  have HSZ := Lib.hid (size_kvS L).2
  obtain ⟨be, hbe⟩ : ∃ be, decide (S.map Prod.fst = K) = be := ⟨_, rfl⟩
  clear hri hma
  go_wp2_with fail
  refine (equalI_any wr GA KA j cA kn kc _ K HRI.out HKW.out (by omega) (by omega)).mono ?_; rintro e w3 ⟨rfl, q3, hq3⟩
  rw [hbe]
  have HM3 := Lib.hid (show w3.ownsMap Tryz.prog 3 rawE mb j (kvS L) from hq3 ▸ HMA.out.kept (row := none) ⟨rfl, by simp, rfl, Nat.le_refl _, fun _ _ _ => rfl⟩ (by simp))
  have HB3 : Hid (Below w.heap.size w w3) := Lib.hid (hq3 ▸ bdN HBW.out q3)
  clear hq3
  have HVS : Hid (∀ i (hi : i < S.length) (hl : i < L.length), ∃ G m c, L[i].2 = .slice G m c ∧ Sl w .u8 G m c S[i].2) := Lib.hid (fun i hi hl => (HLV.out i hi hl).1)
  clear HLV
  cases be
  · go_wp2_with fail
    go_ret2
    exact ⟨mb, L, by rw [hbe]; rfl, HM3.out, HLS.out, HVS.out, Nat.le_of_lt hmw, HB3.out⟩
  · go_wp2_with fail
    refine (keysI_any mb w3).mono ?_; rintro e w4 ⟨rfl, hw4⟩
    have hc4 : w4.cell? ⟨w3.heap.size, 0, none⟩ = some (.map (some mb)) := by rw [hw4]; exact cell_one_new w3 (.map (some mb)) 56 0 _ rfl
    have hl4 : w3.heap.size < w4.heap.size := by rw [hw4]; simp
    have HB4 : Hid (Below w.heap.size w w4) := Lib.hid (hw4 ▸ HB3.out.alloc HB3.out.size _)
    have HM4 : Hid (w4.ownsMap Tryz.prog 3 rawE mb j (kvS L)) := Lib.hid (hw4 ▸ HM3.out.alloc _)
    have HC4 := Lib.hid (collI_any w4 w3.heap.size mb j (kvS L) hl4 hc4 HM4.out (by have := HSZ.out; omega))
    clear hw4 hc4 hl4
    go_wp2_with fail
    refine HC4.out.mono ?_; rintro e w5 ⟨G5, c5, rfl, hb5⟩
    have HB5 := Lib.hid (on HB4.out hb5)
    have HM5 := Lib.hid (HM4.out.kept (row := none) ⟨hb5.os, hb5.tape, hb5.output, hb5.size, fun k hk _ => hb5.block k hk⟩ (by simp))
    clear hb5 HC4
    obtain ⟨z, hz⟩ : ∃ z, decide (Maps.size (kvS L) = kn) = z := ⟨_, rfl⟩
    have t5 : (((Maps.size (kvS L) : Nat) : Int) == (kn : Int)) = z := by rw [← hz]; by_cases h : Maps.size (kvS L) = kn <;> simp [h] <;> omega
    go_wp2_with fail
    go_ret2
    exact ⟨mb, L, by rw [hbe, hKl, hz]; rfl, HM5.out, HLS.out, HVS.out, Nat.le_of_lt hmw, HB5.out⟩
end Go.Proofs.YtmejoococajikaaGreat

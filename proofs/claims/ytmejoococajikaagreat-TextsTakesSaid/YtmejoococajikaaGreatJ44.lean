/- Joined texts: TxTk, TxRC, TxRK. Each has its own head line. No condition beyond those that its theorems state. -/
import Derived.Test.YtmejoococajikaaGreatJ43
import Derived.Test.YtmejoococajikaaGreatJ40
set_option linter.unusedVariables false

/- Texts: Take (real). -/
namespace Go.Proofs.YtmejoococajikaaGreat
open Go.RowKit

theorem two_of {α : Type} {S : List (Int × α)} (h : S.map Prod.fst = [2, 3]) : ∃ a b, S = [(2, a), (3, b)] := by
  match S, h with
  | [(_, a), (_, b)], h =>
    simp at h
    obtain ⟨rfl, rfl⟩ := h
    exact ⟨a, b, rfl⟩
theorem three_of {α : Type} {S : List (Int × α)} (h : S.map Prod.fst = [2, 3, 4]) : ∃ a b c, S = [(2, a), (3, b), (4, c)] := by
  match S, h with
  | [(_, a), (_, b), (_, c)], h =>
    simp at h
    obtain ⟨rfl, rfl, rfl⟩ := h
    exact ⟨a, b, c, rfl⟩
theorem ri_lits (w : World) (l : List Int) (t : TypeId) : Ri (w.alloc (.cells (l.map (Value.int .i64)).toArray t)) .i64 (some ⟨w.heap.size, 0, none⟩) l.length l :=
  ⟨by simp, fun _ => ⟨_, 0, rfl, by simp, fun j u hu => by
    rw [cell_blkT (newBlkT w _), ← hu]
    simp⟩⟩
theorem kv2 (v0 v1 : Value) : Maps.size (kvS [(2, v0), (3, v1)]) = 2 := rfl
theorem kv3 (v0 v1 v2 : Value) : Maps.size (kvS [(2, v0), (3, v1), (4, v2)]) = 3 := rfl
set_option maxRecDepth 100000 in
set_option maxHeartbeats 8000000 in
theorem TakeT_any (w : World) (c : ColT) (A : Option Addr) (n k : Nat) (hS : StAt w A n c.st) (hn : n ≤ 1000) (hI : I64 (c.st.map Prod.fst)) (hU : ∀ s ∈ c.st, U8 s.2 ∧ s.2.length ≤ 100000) :
    Calls Tryz.prog 15 #[.agg #[.int .i64 c.many, .int .i64 c.enc, .int .i64 c.texts, .slice A n k]] w (StrErr w (takeT c).1 (takeT c).2) := by
  obtain ⟨many, enc, texts, S⟩ := c
  dsimp only at hS hI hU ⊢
  obtain ⟨ob, hob⟩ : ∃ ob, ob = Obj.cells #[.int .i64 many, .int .i64 enc, .int .i64 texts, .slice A n k] 27 := ⟨_, rfl⟩
  obtain ⟨w1, hw1⟩ : ∃ w1, w1 = w.alloc ob := ⟨_, rfl⟩
  have hk1 : w1.heap[w.heap.size]? = some (.cells #[.int .i64 many, .int .i64 enc, .int .i64 texts, .slice A n k] 27 (0, 0)) := by rw [hw1, hob]; exact newBlkT w _
  have HK1 := Lib.hid hk1
  have HB1 : Hid (Below w.heap.size w w1) := Lib.hid (hw1 ▸ (Below.refl w.heap.size w).alloc (Nat.le_refl _) _)
  have hl1 : w1.heap.size = w.heap.size + 1 := by rw [hw1]; simp
  have HS := Lib.hid hS; have HI := Lib.hid hI; have HU := Lib.hid hU
  rw [hob] at hw1
  clear hS hI hU hk1 hob
  by_cases hm1 : many < 0
  · have HE : Hid (takeT ⟨many, enc, texts, S⟩ = ([], 1)) := Lib.hid (by unfold takeT; rw [if_pos (.inl hm1)])
    have t1 : decide (many < 0) = true := decide_eq_true hm1
    go_enter Tryz.func15, Tryz.ntmps15
    go_wp2_with fail
    go_ret2
    rw [HE.out, ← hw1]
    exact ⟨_, _, _, rfl, Rs.nil _ _, Nat.le_refl _, by omega, HB1.out⟩
  have t1 : decide (many < 0) = false := decide_eq_false hm1
  by_cases hm2 : 4096 < many
  · have HE : Hid (takeT ⟨many, enc, texts, S⟩ = ([], 1)) := Lib.hid (by unfold takeT; rw [if_pos (.inr hm2)])
    have t2 : decide (4096 < many) = true := decide_eq_true hm2
    go_enter Tryz.func15, Tryz.ntmps15
    go_wp2_with fail
    go_ret2
    rw [HE.out, ← hw1]
    exact ⟨_, _, _, rfl, Rs.nil _ _, Nat.le_refl _, by omega, HB1.out⟩
  have t2 : decide (4096 < many) = false := decide_eq_false hm2
  have HMM : Hid (¬ (many < 0 ∨ 4096 < many)) := Lib.hid (by omega)
  clear hm1 hm2
  by_cases he1 : enc = 1
  · subst he1
    go_enter Tryz.func15, Tryz.ntmps15
    go_wp2_with fail
    obtain ⟨w2, hw2⟩ : ∃ w2, w2 = w1.alloc (.cells #[.int .i64 2, .int .i64 3] 3) := ⟨_, rfl⟩
    have HKR : Hid (Ri w2 .i64 (some ⟨w.heap.size + 1, 0, none⟩) 2 [2, 3]) := Lib.hid (by
      have := ri_lits w1 [2, 3] 3
      rw [hl1] at this
      rw [hw2]; exact this)
    have hb2 : Below w1.heap.size w1 w2 := hw2 ▸ (Below.refl w1.heap.size w1).alloc (Nat.le_refl _) _
    have HB2 := Lib.hid (on HB1.out hb2)
    have HK2 := Lib.hid ((hb2.block w.heap.size (by omega)).trans HK1.out)
    have hz2 := hb2.size
    rw [← hw1, ← hw2]
    clear hw1 hw2 hb2
    refine (streams_any w2 many 1 texts A n k S (HS.out.below HB2.out) hn HI.out (some ⟨w.heap.size + 1, 0, none⟩) 2 2 [2, 3] HKR.out (by omega)).mono ?_; rintro e w3 ⟨mb, L, rfl, hom, hLS, hLv, hmb, hb⟩
    have HB3 := Lib.hid (on HB2.out hb)
    have HK3 := Lib.hid ((hb.block w.heap.size (by omega)).trans HK2.out)
    by_cases hk : S.map Prod.fst = [2, 3]
    · obtain ⟨b0, b1, rfl⟩ := two_of hk
      obtain ⟨v0, v1, rfl⟩ := two_of (hLS.trans hk)
      obtain ⟨G0, m0, c0, e0, s0⟩ := hLv 0 (by simp) (by simp)
      obtain ⟨G1, m1, c1, e1, s1⟩ := hLv 1 (by simp) (by simp)
      have e0 : v0 = .slice G0 m0 c0 := e0
      have e1 : v1 = .slice G1 m1 c1 := e1
      subst e0; subst e1
      have HS0 := Lib.hid ((show Sl w2 .u8 G0 m0 c0 b0 from s0).below hb)
      have HS1 := Lib.hid ((show Sl w2 .u8 G1 m1 c1 b1 from s1).below hb)
      obtain ⟨u0, l0⟩ := HU.out (2, b0) (by simp)
      obtain ⟨u1, l1⟩ := HU.out (3, b1) (by simp)
      have HU0 := Lib.hid u0; have HU1 := Lib.hid u1
      have hlen0 := HS0.out.1.len
      have hlen1 := HS1.out.1.len
      dsimp only at l0 l1
      have hB : (decide (List.map Prod.fst [((2 : Int), b0), (3, b1)] = [2, 3]) && decide (Maps.size (kvS [(2, Value.slice G0 m0 c0), (3, .slice G1 m1 c1)]) = [(2 : Int), 3].length)) = true := by
        rw [kv2, decide_eq_true hk]; rfl
      have HE : Hid (takeT ⟨many, 1, texts, [(2, b0), (3, b1)]⟩ = cutT b0 b1 many) := Lib.hid (by unfold takeT; rw [if_neg HMM.out, if_pos ⟨rfl, hk⟩]; rfl)
      have HM3 := Lib.hid hom
      have kk0 := cell_blkT HK3.out 0
      rw [hB]
      clear hom hLS hLv hk s0 s1 u0 u1 hB hb
      go_wp2_with (first
        | (at_lookup; refine wpList_look_row _ rfl _ _ rfl mb n _ rfl HM3.out 2 rfl wf2 _ rfl ?_)
        | (at_lookup; refine wpList_look_row _ rfl _ _ rfl mb n _ rfl HM3.out 3 rfl wf3 _ rfl ?_))
      refine (cutS_any w3 G0 G1 m0 c0 m1 c1 b0 b1 HS0.out.1 HU0.out HS0.out.2.1 HS0.out.2.2 (by omega) HS1.out.1 HU1.out HS1.out.2.1 HS1.out.2.2 (by omega) many).mono ?_; rintro e w4 ⟨GW, nW, cW, rfl, hs, hcw, hcm, hb⟩
      go_wp2_with fail
      go_ret2
      rw [HE.out]
      exact ⟨_, _, _, rfl, hs, hcw, hcm, on HB3.out hb⟩
    · have hB : (decide (List.map Prod.fst S = [2, 3]) && decide (Maps.size (kvS L) = [(2 : Int), 3].length)) = false := by
        rw [decide_eq_false hk]; rfl
      have HE : Hid (takeT ⟨many, 1, texts, S⟩ = ([], 2)) := Lib.hid (by unfold takeT; rw [if_neg HMM.out, if_neg (fun h => hk h.2), if_neg (fun h => absurd h.1 (by show ¬ ((1 : Int) = 2); decide))])
      rw [hB]
      clear hom hLS hLv hk hB hb
      go_wp2_with fail
      go_ret2
      rw [HE.out]
      exact ⟨_, _, _, rfl, Rs.nil _ _, Nat.le_refl _, by omega, HB3.out⟩
  · by_cases he2 : enc = 2
    · subst he2
      go_enter Tryz.func15, Tryz.ntmps15
      go_wp2_with fail
      obtain ⟨w2, hw2⟩ : ∃ w2, w2 = w1.alloc (.cells #[.int .i64 2, .int .i64 3, .int .i64 4] 3) := ⟨_, rfl⟩
      have HKR : Hid (Ri w2 .i64 (some ⟨w.heap.size + 1, 0, none⟩) 3 [2, 3, 4]) := Lib.hid (by
        have := ri_lits w1 [2, 3, 4] 3
        rw [hl1] at this
        rw [hw2]; exact this)
      have hb2 : Below w1.heap.size w1 w2 := hw2 ▸ (Below.refl w1.heap.size w1).alloc (Nat.le_refl _) _
      have HB2 := Lib.hid (on HB1.out hb2)
      have HK2 := Lib.hid ((hb2.block w.heap.size (by omega)).trans HK1.out)
      have hz2 := hb2.size
      rw [← hw1, ← hw2]
      clear hw1 hw2 hb2
      refine (streams_any w2 many 2 texts A n k S (HS.out.below HB2.out) hn HI.out (some ⟨w.heap.size + 1, 0, none⟩) 3 3 [2, 3, 4] HKR.out (by omega)).mono ?_; rintro e w3 ⟨mb, L, rfl, hom, hLS, hLv, hmb, hb⟩
      have HB3 := Lib.hid (on HB2.out hb)
      have HK3 := Lib.hid ((hb.block w.heap.size (by omega)).trans HK2.out)
      by_cases hk : S.map Prod.fst = [2, 3, 4]
      · obtain ⟨b0, b1, b2, rfl⟩ := three_of hk
        obtain ⟨v0, v1, v2, rfl⟩ := three_of (hLS.trans hk)
        obtain ⟨G0, m0, c0, e0, s0⟩ := hLv 0 (by simp) (by simp)
        obtain ⟨G1, m1, c1, e1, s1⟩ := hLv 1 (by simp) (by simp)
        obtain ⟨G2, m2, c2, e2, s2⟩ := hLv 2 (by simp) (by simp)
        have e0 : v0 = .slice G0 m0 c0 := e0
        have e1 : v1 = .slice G1 m1 c1 := e1
        have e2 : v2 = .slice G2 m2 c2 := e2
        subst e0; subst e1; subst e2
        have s0' := (show Sl w2 .u8 G0 m0 c0 b0 from s0).below hb
        have s1' := (show Sl w2 .u8 G1 m1 c1 b1 from s1).below hb
        have s2' := (show Sl w2 .u8 G2 m2 c2 b2 from s2).below hb
        have HS0 := Lib.hid s0'; have HS1 := Lib.hid s1'; have HS2 := Lib.hid s2'
        obtain ⟨u0, l0⟩ := HU.out (2, b0) (by simp)
        obtain ⟨u1, l1⟩ := HU.out (3, b1) (by simp)
        obtain ⟨u2, l2⟩ := HU.out (4, b2) (by simp)
        have HU0 := Lib.hid u0; have HU1 := Lib.hid u1; have HU2 := Lib.hid u2
        have hlen0 := HS0.out.1.len
        have hlen1 := HS1.out.1.len
        have hlen2 := HS2.out.1.len
        dsimp only at l0 l1 l2
        have hB : (decide (List.map Prod.fst [((2 : Int), b0), (3, b1), (4, b2)] = [2, 3, 4]) && decide (Maps.size (kvS [(2, Value.slice G0 m0 c0), (3, .slice G1 m1 c1), (4, .slice G2 m2 c2)]) = [(2 : Int), 3, 4].length)) = true := by
          rw [kv3, decide_eq_true hk]; rfl
        have HK := Lib.hid hk
        have HM3 := Lib.hid hom
        have kk0 := cell_blkT HK3.out 0
        have kk1 := cell_blkT HK3.out 1
        have kk2 := cell_blkT HK3.out 2
        have kk3 := cell_blkT HK3.out 3
        rw [hB]
        clear hom hLS hLv hk s0 s1 s2 s0' s1' s2' u0 u1 u2 hB hb
        by_cases ht0 : 0 ≤ texts
        · have t5 : decide (0 ≤ texts) = true := decide_eq_true ht0
          by_cases ht1 : texts ≤ 4096
          · have t6 : decide (texts ≤ 4096) = true := decide_eq_true ht1
            have HE : Hid (takeT ⟨many, 2, texts, [(2, b0), (3, b1), (4, b2)]⟩ = idxC b0 b1 b2 many texts) := Lib.hid (by
              unfold takeT
              rw [if_neg HMM.out, if_neg (fun h => absurd h.1 (by show ¬ ((2 : Int) = 1); decide)), if_pos ⟨rfl, HK.out, ht0, ht1⟩]
              rfl)
            go_wp2_with fail
            refine (indexed_any w3 many 2 texts (.slice A n k) mb n _ HM3.out G0 G1 G2 m0 m1 m2 c0 c1 c2 b0 b1 b2 rfl rfl rfl HS0.out HS1.out HS2.out HU0.out HU1.out HU2.out (by omega) (by omega) (by omega)).mono ?_; rintro e w4 ⟨GW, nW, cW, rfl, hs, hcw, hcm, hb⟩
            go_wp2_with fail
            go_ret2
            rw [HE.out]
            exact ⟨_, _, _, rfl, hs, hcw, hcm, on HB3.out hb⟩
          · have t6 : decide (texts ≤ 4096) = false := decide_eq_false ht1
            have HE : Hid (takeT ⟨many, 2, texts, [(2, b0), (3, b1), (4, b2)]⟩ = ([], 2)) := Lib.hid (by
              unfold takeT
              rw [if_neg HMM.out, if_neg (fun h => absurd h.1 (by show ¬ ((2 : Int) = 1); decide)), if_neg (fun h => ht1 h.2.2.2)])
            go_wp2_with fail
            go_ret2
            rw [HE.out]
            exact ⟨_, _, _, rfl, Rs.nil _ _, Nat.le_refl _, by omega, HB3.out⟩
        · have t5 : decide (0 ≤ texts) = false := decide_eq_false ht0
          have HE : Hid (takeT ⟨many, 2, texts, [(2, b0), (3, b1), (4, b2)]⟩ = ([], 2)) := Lib.hid (by
            unfold takeT
            rw [if_neg HMM.out, if_neg (fun h => absurd h.1 (by show ¬ ((2 : Int) = 1); decide)), if_neg (fun h => ht0 h.2.2.1)])
          go_wp2_with fail
          go_ret2
          rw [HE.out]
          exact ⟨_, _, _, rfl, Rs.nil _ _, Nat.le_refl _, by omega, HB3.out⟩
      · have hB : (decide (List.map Prod.fst S = [2, 3, 4]) && decide (Maps.size (kvS L) = [(2 : Int), 3, 4].length)) = false := by
          rw [decide_eq_false hk]; rfl
        have HE : Hid (takeT ⟨many, 2, texts, S⟩ = ([], 2)) := Lib.hid (by unfold takeT; rw [if_neg HMM.out, if_neg (fun h => absurd h.1 (by show ¬ ((2 : Int) = 1); decide)), if_neg (fun h => hk h.2.1)])
        rw [hB]
        clear hom hLS hLv hk hB hb
        go_wp2_with fail
        go_ret2
        rw [HE.out]
        exact ⟨_, _, _, rfl, Rs.nil _ _, Nat.le_refl _, by omega, HB3.out⟩
    · have HE : Hid (takeT ⟨many, enc, texts, S⟩ = ([], 2)) := Lib.hid (by unfold takeT; rw [if_neg HMM.out, if_neg (fun h => he1 h.1), if_neg (fun h => he2 h.1)])
      have t3 : (enc == 1) = false := by simp [he1]
      have t4 : (enc == 2) = false := by simp [he2]
      go_enter Tryz.func15, Tryz.ntmps15
      go_wp2_with fail
      go_ret2
      rw [HE.out, ← hw1]
      exact ⟨_, _, _, rfl, Rs.nil _ _, Nat.le_refl _, by omega, HB1.out⟩
end Go.Proofs.YtmejoococajikaaGreat

/- The reference of texts: cut. -/
namespace Go.Proofs.YtmejoococajikaaGreat
open Go.RowKit

theorem Ri.restMap {w : World} {k : IntKind} {A : Option Addr} {n : Nat} {l : List Int} (h : Ri w k A n l) {i : Nat} (hi : i ≤ n) : Ri w k (A.map fun x => x.add i) (n - i) (l.drop i) := by
  have hl := h.len
  refine ⟨by rw [List.length_map, List.length_drop]; omega, fun h0 => ?_⟩
  obtain ⟨b, o, e, hb, hc⟩ := h.2 (by omega)
  refine ⟨b, o + i, by rw [e]; simp [Addr.add], hb, fun j u hu => ?_⟩
  rw [Nat.add_assoc]
  refine hc (i + j) u ?_
  rw [List.getElem?_map] at hu ⊢
  rw [List.getElem?_drop] at hu
  exact hu
set_option maxRecDepth 100000 in
set_option maxHeartbeats 4000000 in
theorem rcutS_any (w : World) (A B : Option Addr) (n cap m cap2 : Nat) (b lens : List Int) (hr : Ri w .u8 A n b) (hu : U8 b) (hc : n ≤ cap) (hm : cap ≤ 9223372036854775807) (hn : n ≤ 100000) (hr2 : Ri w .u8 B m lens) (hu2 : U8 lens) (hc2 : m ≤ cap2) (hm2 : cap2 ≤ 9223372036854775807) (hn2 : m ≤ 100000) (many : Int) :
    Calls Tryz.prog 32 #[.slice A n cap, .slice B m cap2, .int .i64 many] w (StrErr w (cutT b lens many).1 (cutT b lens many).2) := by
  have HR := Lib.hid hr; have HU := Lib.hid hu; have HR2 := Lib.hid hr2; have HU2 := Lib.hid hu2
  have hbl := hr.len
  clear hr hu hr2 hu2
  obtain ⟨N, r, er, hp⟩ : ∃ N r er, takeGl lens many false = (N, r, er) := ⟨_, _, _, rfl⟩
  have HP := Lib.hid hp
  have HN : Hid (numsT lens many = if er ≠ 0 ∨ r ≠ [] then ([], 2) else (N, 0)) := Lib.hid (by unfold numsT; rw [hp])
  have HNN : Hid (∀ y ∈ N, 0 ≤ y) := Lib.hid (by have := takeGl_pos lens many; rwa [hp] at this)
  have HNG : Hid (I64 N ∧ N.length ≤ 4096) := Lib.hid (by have := takeGl_good lens many false HU2.out; rwa [hp] at this)
  have HMY : Hid (er = 0 → (N.length : Int) = many) := Lib.hid (by have := takeGl_many lens many false; rwa [hp] at this)
  clear hp
  go_enter Tryz.func32, Tryz.ntmps32
  go_wp2_with fail
  refine (refTakeGl_any w B m cap2 lens HR2.out HU2.out hc2 hm2 hn2 many false N r er HP.out).mono ?_; rintro e w1 ⟨G, n1, c1, G2, n2, c2, rfl, hs1, hs2, hb1⟩
  have HS1 := Lib.hid hs1; have HB1 := Lib.hid hb1
  have HR1 := Lib.hid (HR.out.below hb1)
  have hl2 := hs2.1.len
  have hnl := hs1.1.len
  clear hs1 hs2 hb1
  by_cases hbad : er ≠ 0 ∨ r ≠ []
  · have HV : Hid (cutT b lens many = ([], 2)) := Lib.hid (by unfold cutT; rw [HN.out, if_pos hbad]; rfl)
    by_cases he : er = 0
    · subst he
      have t1 : decide (0 < n2) = true := decide_eq_true (by
        rcases hbad with h | h
        · exact absurd rfl h
        · have : 0 < r.length := List.length_pos_iff.2 h
          omega)
      go_wp2_with fail
      go_ret2
      rw [HV.out]
      exact ⟨_, _, _, rfl, Rs.nil _ _, Nat.le_refl _, by omega, HB1.out⟩
    · have t1 : (er != 0) = true := by simp [he]
      go_wp2_with fail
      go_ret2
      rw [HV.out]
      exact ⟨_, _, _, rfl, Rs.nil _ _, Nat.le_refl _, by omega, HB1.out⟩
  · obtain ⟨rfl, rfl⟩ : er = 0 ∧ r = [] := ⟨Decidable.not_not.1 fun h => hbad (.inl h), Decidable.not_not.1 fun h => hbad (.inr h)⟩
    obtain rfl : n2 = 0 := hl2.symm
    have hmany := HMY.out rfl
    rw [hnl] at hmany
    subst hmany
    have HCX : Hid (cutT b lens n1 = optT (cutX b N)) := Lib.hid (by unfold cutT; rw [HN.out, if_neg (by simp)]; rfl)
    have HALL := Lib.hid (fun h0 => HS1.out.1.2 h0)
    obtain ⟨wa, hwa⟩ : ∃ wa, wa = w1.alloc (.cells #[] 9) := ⟨_, rfl⟩
    have hba : Below w1.heap.size w1 wa := hwa ▸ (Below.refl w1.heap.size w1).alloc (Nat.le_refl _) _
    have HO : Hid (wa.ownsRow w1.heap.size 9 1 (.slice (some ⟨w1.heap.size, 0, none⟩) 0 0) 0 (([] : List ByteArray).map Value.string)) := Lib.hid (hwa ▸ own_empty w1 9 1)
    have HBA := Lib.hid hba
    have hlim := HNG.out.2
    clear hba
    go_wp2_with fail
    rw [← hwa]
    clear hwa
    go_loopg [0, 11, 12] n1 (fun gg v0 v11 v wr => ∃ (j : Nat) (O : List ByteArray) (bb : List Int) (A' : Option Addr) (n' cap' : Nat), v = .int .i64 j ∧ v0 = .slice A' n' cap' ∧ j ≤ n1 ∧ n1 - j ≤ gg ∧ Hid (wr.ownsRow w1.heap.size 9 1 v11 j (O.map Value.string)) ∧ Hid (Ri w1 .u8 A' n' bb) ∧ n' ≤ cap' ∧ cap' ≤ 9223372036854775807 ∧ n' ≤ n ∧ Hid (cutX b N = (cutX bb (N.drop j)).map (O ++ ·)) ∧ Hid (Below w1.heap.size w1 wr))
    case atStart => exact ⟨0, [], b, A, n, cap, rfl, rfl, by omega, by omega, HO, HR1, hc, hm, Nat.le_refl _, Lib.hid (by rw [List.drop_zero]; cases cutX b N <;> rfl), HBA⟩
    case round =>
    obtain ⟨j, O, bb, A', n', cap', rfl, rfl, hjn, hgg, ho, hri, hnc, hcm, hnn, hcx, hb⟩ := hrel
    obtain ⟨GO, cO, hGO⟩ := own_form ho.out
    subst hGO
    have hz := hb.out.size
    have hbbl := hri.out.len
    by_cases hlt : j < n1
    · have t1 : decide (j < n1) = true := decide_eq_true hlt
      obtain ⟨gb, go, hG, hgb, hcells⟩ := HALL.out (by omega)
      have hj : j < N.length := by omega
      have hcj := hcells j _ (by rw [List.getElem?_map, List.getElem?_eq_getElem hj]; rfl)
      have HDR := Lib.hid (List.drop_eq_getElem_cons hj)
      have h0 := HNN.out _ (List.getElem_mem hj)
      have h64 := HNG.out.1 _ (List.getElem_mem hj)
      obtain ⟨k, hk⟩ : ∃ k : Nat, N[j] = (k : Int) := ⟨N[j].toNat, by omega⟩
      rw [hk] at hcj HDR h64
      have HKC : Hid (∀ v : World, Below w1.heap.size w1 v → v.cell? ⟨gb, go + j, none⟩ = some (.int .i64 (k : Int))) := Lib.hid fun v hv => (hv.cell (p := ⟨gb, go + j, none⟩) hgb).trans hcj
      have cj := HKC.out wr hb.out
      subst hG
      clear hcj
      clear hcells hk h0
      by_cases h3 : 300 < k
      · have t2 : decide (300 < k) = true := decide_eq_true h3
        have HV : Hid (cutT b lens n1 = ([], 2)) := Lib.hid (by rw [HCX.out, hcx.out, HDR.out, cutX, if_pos (.inl (by omega))]; rfl)
        go_wp2_with fail
        go_ret2
        rw [HV.out]
        exact ⟨_, _, _, rfl, Rs.nil _ _, Nat.le_refl _, by omega, on HB1.out hb.out⟩
      · have t2 : decide (300 < k) = false := decide_eq_false h3
        by_cases h4 : n' < k
        · have t3 : decide (n' < k) = true := decide_eq_true h4
          have HV : Hid (cutT b lens n1 = ([], 2)) := Lib.hid (by rw [HCX.out, hcx.out, HDR.out, cutX, if_pos (.inr (by omega))]; rfl)
          go_wp2_with fail
          go_ret2
          rw [HV.out]
          exact ⟨_, _, _, rfl, Rs.nil _ _, Nat.le_refl _, by omega, on HB1.out hb.out⟩
        · have t3 : decide (n' < k) = false := decide_eq_false h4
          have hgood : ¬ (300 < (k : Int) ∨ (bb.length : Int) < k) := by omega
          have hkn : k ≤ n' := by omega
          have va := conv_any (c := cap') (Ri.first (hri.out.below hb.out) hkn)
          have HOB := Lib.hid (Rs.one wr (strOf (bb.take k)) 9)
          have HO2 := Lib.hid (own_below ho.out ((Below.refl wr.heap.size wr).alloc (Nat.le_refl _) (.cells #[.string (strOf (bb.take k))] 9)))
          go_wp2_with (at_builtin; refine wpList_str _ rfl (.tmp 47) (.tmp 55) rfl w1.heap.size _ j _ rfl HO2.out _ 1 1 [strOf (bb.take k)] rfl HOB.out (by omega) (by simp; omega) ?_; intro G3 c3 w3 ho3 hg3 _; have HB3 := Lib.hid (push_ hb.out (Nat.le_refl _) ho.out hg3); have cj3 := HKC.out w3 HB3.out)
          all_goals
            have HO3 := Lib.hid ho3
            have HX3 : Hid (cutX b N = (cutX (bb.drop k) (N.drop (j + 1))).map ((O ++ [strOf (bb.take k)]) ++ ·)) := Lib.hid (by
              rw [hcx.out, HDR.out, cutS_step hgood, Option.map_map]
              congr 1
              funext x
              simp)
            have HRM := Lib.hid (hri.out.restMap hkn)
            have HRN : Hid (n' - k = 0 → ∀ Z, Ri w1 .u8 Z (n' - k) (bb.drop k)) := Lib.hid fun h Z => by
              have e1 : bb.drop k = [] := List.drop_of_length_le (by omega)
              rw [h, e1]
              exact Ri.nil _ _ _
            clear ho3 hg3 cj3 cj va
            go_roundg (n1 - (j + 1))
            case measure => omega
            case rel => exact ⟨j + 1, _, bb.drop k, _, _, _, by go_num, rfl, by omega, by omega, HO3, Lib.hid (by first | exact HRM.out | exact HRN.out (by omega) _), by omega, by omega, by omega, HX3, HB3⟩
    · have t1 : decide (j < n1) = false := decide_eq_false hlt
      obtain rfl : j = n1 := by omega
      have hnd : N.drop j = [] := List.drop_of_length_le (by omega)
      have hcap := own_cap ho.out
      by_cases hb0 : bb = []
      · have HV : Hid (cutT b lens j = (O, 0)) := Lib.hid (by rw [HCX.out, hcx.out, hnd, cutX, if_pos hb0]; simp [optT])
        have t2 : decide (0 < n') = false := decide_eq_false (by rw [← hbbl, hb0]; simp)
        clear hb0
        go_wp2_with fail
        go_ret2
        rw [HV.out]
        exact ⟨_, _, _, rfl, Rs.of_own ho.out, hcap.1, hcap.2, on HB1.out hb.out⟩
      · have HV : Hid (cutT b lens j = ([], 2)) := Lib.hid (by rw [HCX.out, hcx.out, hnd, cutX, if_neg hb0]; rfl)
        have t2 : decide (0 < n') = true := decide_eq_true (by rw [← hbbl]; exact List.length_pos_iff.2 hb0)
        clear hb0
        go_wp2_with fail
        go_ret2
        rw [HV.out]
        exact ⟨_, _, _, rfl, Rs.nil _ _, Nat.le_refl _, by omega, on HB1.out hb.out⟩
end Go.Proofs.YtmejoococajikaaGreat

/- The reference of texts: kinds. -/
namespace Go.Proofs.YtmejoococajikaaGreat
open Go.RowKit

theorem StAt.ks {w : World} {A : Option Addr} {n : Nat} {S : List (Int × List Int)} (h : StAt w A n S) (h0 : 0 < n) : ∃ b o, A = some ⟨b, o, none⟩ ∧ b < w.heap.size ∧ ∀ j (hj : j < S.length), w.cell? ⟨b, o + j * 2, none⟩ = some (.int .i64 S[j].1) := by
  obtain ⟨b, o, e, hb, hc⟩ := h.2 h0
  exact ⟨b, o, e, hb, fun j hj => (hc j hj).1⟩
set_option maxRecDepth 100000 in
set_option maxHeartbeats 4000000 in
theorem rKinds_any (w : World) (A : Option Addr) (n c : Nat) (S : List (Int × List Int)) (hS : StAt w A n S) (KA : Option Addr) (kn kc : Nat) (K : List Int) (hK : Ri w .i64 KA kn K) (hkn : kn ≤ 1000) :
    Calls Tryz.prog 31 #[.slice A n c, .slice KA kn kc] w fun e w' => e = .returned (.bool (decide (S.map Prod.fst = K))) ∧ ∃ q, w' = w.drewN q := by
  have hSl := hS.1
  have hKl := hK.len
  by_cases hnm : n = kn
  · subst hnm
    have HA := Lib.hid (fun h0 => hS.ks h0)
    have HB := Lib.hid (fun h0 => hK.2 h0)
    clear hS hK
    go_enter Tryz.func31, Tryz.ntmps31
    go_wp2_with fail
    go_loopg [5] n (fun gg v wr => ∃ j : Nat, v = .int .i64 j ∧ j ≤ n ∧ n - j ≤ gg ∧ Hid ((S.map Prod.fst).take j = K.take j) ∧ ∃ q, wr = w.drewN q)
    case atStart => exact ⟨0, rfl, by omega, by omega, Lib.hid rfl, 0, rfl⟩
    case round =>
      obtain ⟨j, rfl, hjN, hgg, hs, q, rfl⟩ := hrel
      by_cases hlt : j < n
      · have t1 : decide (j < n) = true := decide_eq_true hlt
        obtain ⟨b1, o1, rfl, _, hc1⟩ := HA.out (by omega)
        obtain ⟨b2, o2, rfl, _, hc2⟩ := HB.out (by omega)
        have hj1 : j < S.length := by omega
        have hj2 : j < K.length := by omega
        have k1 := hc1 j hj1
        have k2 := hc2 j _ (by rw [List.getElem?_map, List.getElem?_eq_getElem hj2]; rfl)
        have HE1 : Hid ((S.map Prod.fst).take (j + 1) = (S.map Prod.fst).take j ++ [S[j].1]) := Lib.hid (by
          rw [List.take_succ_eq_append_getElem (by simpa using hj1), List.getElem_map])
        have HE2 : Hid (K.take (j + 1) = K.take j ++ [K[j]]) := Lib.hid (List.take_succ_eq_append_getElem hj2)
        generalize S[j].1 = x at k1 HE1
        generalize K[j] = z at k2 HE2
        clear hc1 hc2
        by_cases he : x = z
        · have HS : Hid ((S.map Prod.fst).take (j + 1) = K.take (j + 1)) := Lib.hid (by rw [HE1.out, HE2.out, hs.out, he])
          subst he
          go_wp2_with fail
          go_quiet (fail)
          go_wp2_with fail
          go_roundg (n - (j + 1))
          case measure => omega
          case rel => exact ⟨j + 1, by go_num, by omega, by omega, HS, _, rfl⟩
        · have t3 : (x != z) = true := by simp [he]
          have HF : Hid (decide (S.map Prod.fst = K) = false) := Lib.hid (decide_eq_false (by
            intro h
            have h1 := HE1.out
            rw [h, HE2.out] at h1
            have h2 := List.append_inj_right' h1 rfl
            injection h2 with h2
            exact he h2.symm))
          clear he
          go_wp2_with fail
          go_quiet (fail)
          go_wp2_with fail
          go_ret
          exact ⟨ret_bool HF.out.symm, q + nq, by simp⟩
      · have t1 : decide (j < n) = false := decide_eq_false hlt
        obtain rfl : j = n := by omega
        have HF : Hid (decide (S.map Prod.fst = K) = true) := Lib.hid (decide_eq_true (by
          have h := hs.out
          rwa [List.take_of_length_le (by simp; omega), List.take_of_length_le (by omega)] at h))
        go_wp2_with fail
        go_ret
        exact ⟨ret_bool HF.out.symm, _, rfl⟩
  · have HF : Hid (decide (S.map Prod.fst = K) = false) := Lib.hid (decide_eq_false (by
      intro h
      have := congrArg List.length h
      rw [List.length_map] at this
      omega))
    have t1 : ((n : Int) != (kn : Int)) = true := by simp; omega
    go_enter Tryz.func31, Tryz.ntmps31
    go_wp2_with fail
    go_ret
    exact ⟨ret_bool HF.out.symm, 0, rfl⟩
end Go.Proofs.YtmejoococajikaaGreat

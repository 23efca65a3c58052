/- Joined texts: TxRT. Each has its own head line. No condition beyond those that its theorems state. -/
import Derived.Deep.RegionHeld3
import Derived.Test.YtmejoococajikaaGreatJ44
set_option linter.unusedVariables false

/- The reference of texts: Take. -/
namespace Go.Proofs.YtmejoococajikaaGreat
open Go.RowKit

/-- A stream's two cells. -/
theorem StAt.two {w : World} {A : Option Addr} {n : Nat} {S : List (Int × List Int)} (h : StAt w A n S) (h0 : 0 < n) : ∃ b o, A = some ⟨b, o, none⟩ ∧ b < w.heap.size ∧ ∀ j (hj : j < S.length), ∃ G m c, w.cell? ⟨b, o + j * 2 + 1, none⟩ = some (.slice G m c) ∧ Sl w .u8 G m c S[j].2 := by
  obtain ⟨b, o, e, hb, hc⟩ := h.2 h0
  exact ⟨b, o, e, hb, fun j hj => (hc j hj).2⟩
theorem cutT_er (b lens : List Int) (many : Int) : (cutT b lens many).2 = 0 ∨ cutT b lens many = ([], 2) := by
  unfold cutT
  split
  · exact .inr rfl
  · cases cutX b (numsT lens many).1 with
    | none => exact .inr rfl
    | some l => exact .inl rfl
theorem cutS_dr (w : World) (A B : Option Addr) (n cap m cap2 : Nat) (b lens : List Int) (hr : Sl w .u8 A n cap b) (hu : U8 b) (hn : n ≤ 100000) (hr2 : Sl w .u8 B m cap2 lens) (hu2 : U8 lens) (hn2 : m ≤ 100000) (many : Int) :
    Calls Tryz.prog 32 #[.slice A n cap, .slice B m cap2, .int .i64 many] w.drew (StrErr w.drew (cutT b lens many).1 (cutT b lens many).2) :=
  rcutS_any w.drew A B n cap m cap2 b lens hr.1 hu hr.2.1 hr.2.2 hn hr2.1 hu2 hr2.2.1 hr2.2.2 hn2 many
set_option maxRecDepth 100000 in
set_option maxHeartbeats 16000000 in
theorem rTakeT_any (w : World) (c : ColT) (A : Option Addr) (n k : Nat) (hS : StAt w A n c.st) (hn : n ≤ 1000) (hU : ∀ s ∈ c.st, U8 s.2 ∧ s.2.length ≤ 100000) :
    Calls Tryz.prog 16 #[.agg #[.int .i64 c.many, .int .i64 c.enc, .int .i64 c.texts, .slice A n k]] w (StrErr w (takeT c).1 (takeT c).2) := by
  obtain ⟨many, enc, texts, S⟩ := c
  dsimp only at hS hU ⊢
  obtain ⟨w1, hw1⟩ : ∃ w1, w1 = w.alloc (.cells #[.int .i64 many, .int .i64 enc, .int .i64 texts, .slice A n k] 27) := ⟨_, rfl⟩
  have hk1 : w1.heap[w.heap.size]? = some (.cells #[.int .i64 many, .int .i64 enc, .int .i64 texts, .slice A n k] 27 (0, 0)) := by rw [hw1]; exact newBlkT w _
  have HK1 := Lib.hid hk1
  have HB1 : Hid (Below w.heap.size w w1) := Lib.hid (hw1 ▸ (Below.refl w.heap.size w).alloc (Nat.le_refl _) _)
  have hl1 : w1.heap.size = w.heap.size + 1 := by rw [hw1]; simp
  have HS := Lib.hid hS; have HU := Lib.hid hU
  clear hS hU hk1
  by_cases hm1 : many < 0
  · have HE : Hid (takeT ⟨many, enc, texts, S⟩ = ([], 1)) := Lib.hid (by unfold takeT; rw [if_pos (.inl hm1)])
    have t1 : decide (many < 0) = true := decide_eq_true hm1
    go_enter Tryz.func16, Tryz.ntmps16
    go_wp2_with fail
    go_ret2
    rw [HE.out, ← hw1]
    exact ⟨_, _, _, rfl, Rs.nil _ _, Nat.le_refl _, by omega, HB1.out⟩
  have t1 : decide (many < 0) = false := decide_eq_false hm1
  by_cases hm2 : 4096 < many
  · have HE : Hid (takeT ⟨many, enc, texts, S⟩ = ([], 1)) := Lib.hid (by unfold takeT; rw [if_pos (.inr hm2)])
    have t2 : decide (4096 < many) = true := decide_eq_true hm2
    go_enter Tryz.func16, Tryz.ntmps16
    go_wp2_with fail
    go_ret2
    rw [HE.out, ← hw1]
    exact ⟨_, _, _, rfl, Rs.nil _ _, Nat.le_refl _, by omega, HB1.out⟩
  have t2 : decide (4096 < many) = false := decide_eq_false hm2
  have HMM : Hid (¬ (many < 0 ∨ 4096 < many)) := Lib.hid (by omega)
  clear hm1 hm2
  obtain ⟨w2, hw2⟩ : ∃ w2, w2 = w1.alloc (.cells #[.int .i64 2, .int .i64 3] 3) := ⟨_, rfl⟩
  have HKR : Hid (Ri w2 .i64 (some ⟨w.heap.size + 1, 0, none⟩) 2 [2, 3]) := Lib.hid (by
    have := ri_lits w1 [2, 3] 3
    rw [hl1] at this
    rw [hw2]; exact this)
  have hb2 : Below w1.heap.size w1 w2 := hw2 ▸ (Below.refl w1.heap.size w1).alloc (Nat.le_refl _) _
  have HB2 := Lib.hid (on HB1.out hb2)
  have HK2 := Lib.hid ((hb2.block w.heap.size (by omega)).trans HK1.out)
  have hz2 := hb2.size
  clear hb2
  go_enter Tryz.func16, Tryz.ntmps16
  go_wp2_with fail
  rw [← hw1, ← hw2]
  clear hw1 hw2
  refine (rKinds_any w2 A n k S (HS.out.below HB2.out) (some ⟨w.heap.size + 1, 0, none⟩) 2 2 [2, 3] HKR.out (by omega)).mono ?_; rintro e w3 ⟨rfl, q3, hq3⟩
  have HB3 : Hid (Below w.heap.size w w3) := Lib.hid (hq3 ▸ bdN HB2.out q3)
  have HK3 : Hid (w3.heap[w.heap.size]? = some (.cells #[.int .i64 many, .int .i64 enc, .int .i64 texts, .slice A n k] 27 (0, 0))) := Lib.hid (hq3 ▸ HK2.out)
  have hz3 : w.heap.size < w3.heap.size := by have : w3.heap.size = w2.heap.size := by rw [hq3]; rfl
                                              omega
  have kk1 := cell_blkT HK3.out 1
  clear hq3
  by_cases hp : enc = 1 ∧ S.map Prod.fst = [2, 3]
  · obtain ⟨rfl, hk⟩ := hp
    rw [decide_eq_true hk]
    obtain ⟨b0, b1, rfl⟩ := two_of hk
    obtain ⟨rfl⟩ : n = 2 := HS.out.1.symm
    have kk0 := cell_blkT HK3.out 0
    have kk3 := cell_blkT HK3.out 3
    have HS3 := Lib.hid (HS.out.below HB3.out)
    obtain ⟨b, o, rfl, hbl, hc⟩ := HS3.out.two (by omega)
    obtain ⟨G0, m0, c0, e0, s0⟩ := hc 0 (by simp)
    obtain ⟨G1, m1, c1, e1, s1⟩ := hc 1 (by simp)
    obtain ⟨u0, l0⟩ := HU.out (2, b0) (by simp)
    obtain ⟨u1, l1⟩ := HU.out (3, b1) (by simp)
    have HS0 := Lib.hid (show Sl w3 .u8 G0 m0 c0 b0 from s0)
    have HS1 := Lib.hid (show Sl w3 .u8 G1 m1 c1 b1 from s1)
    have HU0 := Lib.hid u0; have HU1 := Lib.hid u1
    have hlen0 := HS0.out.1.len
    have hlen1 := HS1.out.1.len
    dsimp only at l0 l1
    have HE : Hid (takeT ⟨many, 1, texts, [(2, b0), (3, b1)]⟩ = cutT b0 b1 many) := Lib.hid (by unfold takeT; rw [if_neg HMM.out, if_pos ⟨rfl, hk⟩]; rfl)
    have q0 : w3.drew.cell? ⟨w.heap.size, 0, none⟩ = some (.int .i64 many) := kk0
    have q3 : w3.drew.cell? ⟨w.heap.size, 3, none⟩ = some (.slice (some ⟨b, o, none⟩) 2 k) := kk3
    have qs0 : w3.drew.cell? ⟨b, o + 1, none⟩ = some (.slice G0 m0 c0) := by rw [Nat.zero_mul] at e0; exact e0
    have qs1 : w3.drew.cell? ⟨b, o + 2 + 1, none⟩ = some (.slice G1 m1 c1) := by rw [Nat.one_mul] at e1; exact e1
    have hcut := Lib.hid (cutS_dr w3 G0 G1 m0 c0 m1 c1 b0 b1 HS0.out HU0.out (by omega) HS1.out HU1.out (by omega) many)
    clear hc e0 e1 s0 s1 u0 u1 hk kk0 kk3
    go_wp2_with fail
    clear kk1
    go_region_held3 (fun w' => w'.cell? ⟨w.heap.size, 0, none⟩ = some (.int .i64 many) ∧ w'.cell? ⟨w.heap.size, 3, none⟩ = some (.slice (some ⟨b, o, none⟩) 2 k) ∧ w'.cell? ⟨b, o + 1, none⟩ = some (.slice G0 m0 c0) ∧ w'.cell? ⟨b, o + 2 + 1, none⟩ = some (.slice G1 m1 c1)) (first | (with_reducible exact ⟨q0, q3, qs0, qs1⟩) | (with_reducible exact ⟨i0, i3, is0, is1⟩))
      (first | (go_at_call 32; refine hcut.out.mono ?_; rintro e w4 ⟨GW, nW, cW, rfl, hs, hcw, hcm, hb⟩; have i0 := (hb.cell (p := ⟨w.heap.size, 0, none⟩) hz3).trans q0; have i3 := (hb.cell (p := ⟨w.heap.size, 3, none⟩) hz3).trans q3; have is0 := (hb.cell (p := ⟨b, o + 1, none⟩) hbl).trans qs0; have is1 := (hb.cell (p := ⟨b, o + 2 + 1, none⟩) hbl).trans qs1))
    go_wp2_with fail
    go_ret2
    rw [HE.out]
    exact ⟨_, _, _, rfl, hs, hcw, hcm, on HB3.out (on (Below.refl _ _).drew hb)⟩
  obtain ⟨w4, hw4⟩ : ∃ w4, w4 = w3.alloc (.cells #[.int .i64 2, .int .i64 3, .int .i64 4] 3) := ⟨_, rfl⟩
  have HKR4 : Hid (Ri w4 .i64 (some ⟨w3.heap.size, 0, none⟩) 3 [2, 3, 4]) := Lib.hid (by
    have := ri_lits w3 [2, 3, 4] 3
    rw [hw4]; exact this)
  have hb4 : Below w3.heap.size w3 w4 := hw4 ▸ (Below.refl w3.heap.size w3).alloc (Nat.le_refl _) _
  have HB4 := Lib.hid (on HB3.out hb4)
  have HK4 := Lib.hid ((hb4.block w.heap.size (by omega)).trans HK3.out)
  have hz4 := hb4.size
  have kk3 := cell_blkT HK3.out 3
  have HKI := Lib.hid (rKinds_any w4 A n k S (HS.out.below HB4.out) (some ⟨w3.heap.size, 0, none⟩) 3 3 [2, 3, 4] HKR4.out (by omega))
  clear hb4
  by_cases he1 : enc = 1
  · subst he1
    have HE : Hid (takeT ⟨many, 1, texts, S⟩ = ([], 2)) := Lib.hid (by unfold takeT; rw [if_neg HMM.out, if_neg (fun h => hp ⟨rfl, h.2⟩), if_neg (fun h => absurd h.1 (by show ¬ ((1 : Int) = 2); decide))])
    rw [decide_eq_false (fun h => hp ⟨rfl, h⟩)]
    clear hp
    go_wp2_with fail
    rw [← hw4]
    refine HKI.out.mono ?_; rintro e w5 ⟨rfl, q5, hq5⟩
    have HB5 : Hid (Below w.heap.size w w5) := Lib.hid (hq5 ▸ bdN HB4.out q5)
    have HK5 : Hid (w5.heap[w.heap.size]? = some (.cells #[.int .i64 many, .int .i64 1, .int .i64 texts, .slice A n k] 27 (0, 0))) := Lib.hid (hq5 ▸ HK4.out)
    clear hq5 hw4 kk1 kk3
    have kk1 := cell_blkT HK5.out 1
    obtain ⟨bo, hbo⟩ : ∃ bo, decide (S.map Prod.fst = [2, 3, 4]) = bo := ⟨_, rfl⟩
    rw [hbo]
    go_wp2_with fail
    go_ret2
    rw [HE.out]
    exact ⟨_, _, _, rfl, Rs.nil _ _, Nat.le_refl _, by omega, HB5.out⟩
  have t3 : (enc == 1) = false := by simp [he1]
  obtain ⟨pl, hpl⟩ : ∃ pl, decide (S.map Prod.fst = [2, 3]) = pl := ⟨_, rfl⟩
  rw [hpl]
  clear hp hpl
  go_wp2_with fail
  rw [← hw4]
  refine HKI.out.mono ?_; rintro e w5 ⟨rfl, q5, hq5⟩
  have HB5 : Hid (Below w.heap.size w w5) := Lib.hid (hq5 ▸ bdN HB4.out q5)
  have HK5 : Hid (w5.heap[w.heap.size]? = some (.cells #[.int .i64 many, .int .i64 enc, .int .i64 texts, .slice A n k] 27 (0, 0))) := Lib.hid (hq5 ▸ HK4.out)
  have hz5 : w.heap.size < w5.heap.size := by have : w5.heap.size = w4.heap.size := by rw [hq5]; rfl
                                              omega
  clear hq5 hw4 kk1 kk3
  have kk1 := cell_blkT HK5.out 1
  by_cases he2 : enc = 2
  · subst he2
    by_cases hk : S.map Prod.fst = [2, 3, 4]
    · rw [decide_eq_true hk]
      obtain ⟨b0, b1, b2, rfl⟩ := three_of hk
      have kk2 := cell_blkT HK5.out 2
      by_cases ht0 : texts < 0
      · have t5 : decide (texts < 0) = true := decide_eq_true ht0
        have HE : Hid (takeT ⟨many, 2, texts, [(2, b0), (3, b1), (4, b2)]⟩ = ([], 2)) := Lib.hid (by
          unfold takeT
          rw [if_neg HMM.out, if_neg (fun h => absurd h.1 (by show ¬ ((2 : Int) = 1); decide)), if_neg (fun h => by have : 0 ≤ texts := h.2.2.1; omega)])
        go_wp2_with fail
        go_ret2
        rw [HE.out]
        exact ⟨_, _, _, rfl, Rs.nil _ _, Nat.le_refl _, by omega, HB5.out⟩
      have t5 : decide (texts < 0) = false := decide_eq_false ht0
      by_cases ht1 : 4096 < texts
      · have t6 : decide (4096 < texts) = true := decide_eq_true ht1
        have HE : Hid (takeT ⟨many, 2, texts, [(2, b0), (3, b1), (4, b2)]⟩ = ([], 2)) := Lib.hid (by
          unfold takeT
          rw [if_neg HMM.out, if_neg (fun h => absurd h.1 (by show ¬ ((2 : Int) = 1); decide)), if_neg (fun h => by have : texts ≤ 4096 := h.2.2.2; omega)])
        go_wp2_with fail
        go_ret2
        rw [HE.out]
        exact ⟨_, _, _, rfl, Rs.nil _ _, Nat.le_refl _, by omega, HB5.out⟩
      have t6 : decide (4096 < texts) = false := decide_eq_false ht1
      have HE : Hid (takeT ⟨many, 2, texts, [(2, b0), (3, b1), (4, b2)]⟩ = idxC b0 b1 b2 many texts) := Lib.hid (by
        unfold takeT
        rw [if_neg HMM.out, if_neg (fun h => absurd h.1 (by show ¬ ((2 : Int) = 1); decide)), if_pos ⟨rfl, hk, Int.not_lt.1 ht0, Int.not_lt.1 ht1⟩]
        rfl)
      obtain ⟨rfl⟩ : n = 3 := HS.out.1.symm
      clear hk ht0 ht1
      have kk0 := cell_blkT HK5.out 0
      have kk3 := cell_blkT HK5.out 3
      have HS5 := Lib.hid (HS.out.below HB5.out)
      obtain ⟨b, o, rfl, hbl, hc⟩ := HS5.out.two (by omega)
      obtain ⟨G0, m0, c0, e0, s0⟩ := hc 0 (by simp)
      obtain ⟨G1, m1, c1, e1, s1⟩ := hc 1 (by simp)
      obtain ⟨G2, m2, c2, e2, s2⟩ := hc 2 (by simp)
      obtain ⟨u0, l0⟩ := HU.out (2, b0) (by simp)
      obtain ⟨u1, l1⟩ := HU.out (3, b1) (by simp)
      obtain ⟨u2, l2⟩ := HU.out (4, b2) (by simp)
      have HS0 := Lib.hid (show Sl w5 .u8 G0 m0 c0 b0 from s0)
      have HS1 := Lib.hid (show Sl w5 .u8 G1 m1 c1 b1 from s1)
      have HS2 := Lib.hid (show Sl w5 .u8 G2 m2 c2 b2 from s2)
      have HU0 := Lib.hid u0; have HU1 := Lib.hid u1; have HU2 := Lib.hid u2
      have hlen0 := HS0.out.1.len
      have hlen1 := HS1.out.1.len
      have hlen2 := HS2.out.1.len
      dsimp only at l0 l1 l2
      obtain ⟨N, r, en, hp⟩ : ∃ N r en, takeGl b0 many false = (N, r, en) := ⟨_, _, _, rfl⟩
      obtain ⟨W, ew, hW⟩ : ∃ W ew, cutT b2 b1 texts = (W, ew) := ⟨_, _, rfl⟩
      have HNQ : Hid (numsT b0 many = if en ≠ 0 ∨ r ≠ [] then ([], 2) else (N, 0)) := Lib.hid (by unfold numsT; rw [hp])
      have HNN : Hid (∀ y ∈ N, 0 ≤ y) := Lib.hid (by have := takeGl_pos b0 many; rwa [hp] at this)
      have HNG : Hid (I64 N ∧ N.length ≤ 4096) := Lib.hid (by have := takeGl_good b0 many false u0; rwa [hp] at this)
      have HWL : Hid (W.length ≤ 4096) := Lib.hid (by have := cutT_len b2 b1 texts u1; rwa [hW] at this)
      have HWE : Hid (ew = 0 ∨ (ew = 2 ∧ W = [])) := Lib.hid (by
        rcases cutT_er b2 b1 texts with h | h <;> rw [hW] at h
        · exact .inl h
        · injection h with h1 h2; exact .inr ⟨h2, h1⟩)
      have HWQ := Lib.hid hW
      have q0 : w5.drew.cell? ⟨w.heap.size, 0, none⟩ = some (.int .i64 many) := kk0
      have q2 : w5.drew.cell? ⟨w.heap.size, 2, none⟩ = some (.int .i64 texts) := kk2
      have q3 : w5.drew.cell? ⟨w.heap.size, 3, none⟩ = some (.slice (some ⟨b, o, none⟩) 3 k) := kk3
      have qs0 : w5.drew.cell? ⟨b, o + 1, none⟩ = some (.slice G0 m0 c0) := by rw [Nat.zero_mul] at e0; exact e0
      have qs1 : w5.drew.cell? ⟨b, o + 2 + 1, none⟩ = some (.slice G1 m1 c1) := by rw [Nat.one_mul] at e1; exact e1
      have qs2 : w5.drew.cell? ⟨b, o + 4 + 1, none⟩ = some (.slice G2 m2 c2) := e2
      have htake := Lib.hid (refTakeGl_any w5.drew G0 m0 c0 b0 HS0.out.1 u0 HS0.out.2.1 HS0.out.2.2 (by omega) many false N r en hp)
      clear hc e0 e1 e2 s0 s1 s2 u0 u1 u2 kk0 kk3 hp hW
      go_wp2_with fail
      clear kk1 kk2
      go_region_held3 (fun w' => w'.cell? ⟨w.heap.size, 0, none⟩ = some (.int .i64 many) ∧ w'.cell? ⟨w.heap.size, 3, none⟩ = some (.slice (some ⟨b, o, none⟩) 3 k) ∧ w'.cell? ⟨b, o + 1, none⟩ = some (.slice G0 m0 c0)) (first | (with_reducible exact ⟨q0, q3, qs0⟩) | (with_reducible exact ⟨i0, i3, is0⟩))
        (first | (go_at_call 33; refine htake.out.mono ?_; rintro e w6 ⟨GN, nN, cN, GR, nR, cR, rfl, hsN, hsR, hb⟩; have i0 := (hb.cell (p := ⟨w.heap.size, 0, none⟩) hz5).trans q0; have i3 := (hb.cell (p := ⟨w.heap.size, 3, none⟩) hz5).trans q3; have is0 := (hb.cell (p := ⟨b, o + 1, none⟩) hbl).trans qs0))
      have hb6 := on (Below.refl _ w5).drew hb
      have HB6 := Lib.hid (on HB5.out hb6)
      have HSN6 := Lib.hid hsN
      have hrl := hsR.1.len
      have hnl := hsN.1.len
      have HS61 := Lib.hid (HS1.out.below hb6); have HS62 := Lib.hid (HS2.out.below hb6)
      have hl6 : b < w6.heap.size := Nat.lt_of_lt_of_le hbl hb6.size
      have hz6 : w.heap.size < w6.heap.size := Nat.lt_of_lt_of_le hz5 hb6.size
      have r2 : w6.drew.cell? ⟨w.heap.size, 2, none⟩ = some (.int .i64 texts) := (hb6.cell (p := ⟨w.heap.size, 2, none⟩) hz5).trans q2
      have r3 : w6.drew.cell? ⟨w.heap.size, 3, none⟩ = some (.slice (some ⟨b, o, none⟩) 3 k) := (hb6.cell (p := ⟨w.heap.size, 3, none⟩) hz5).trans q3
      have rs1 : w6.drew.cell? ⟨b, o + 2 + 1, none⟩ = some (.slice G1 m1 c1) := (hb6.cell (p := ⟨b, o + 2 + 1, none⟩) hbl).trans qs1
      have rs2 : w6.drew.cell? ⟨b, o + 4 + 1, none⟩ = some (.slice G2 m2 c2) := (hb6.cell (p := ⟨b, o + 4 + 1, none⟩) hbl).trans qs2
      clear hb hb6 hsN hsR i0 i3 is0 q0 q2 q3 qs0 qs1 qs2 htake
      by_cases hbad : en ≠ 0 ∨ r ≠ []
      · have HV : Hid (idxC b0 b1 b2 many texts = ([], 2)) := Lib.hid (by unfold idxC; rw [HNQ.out, if_pos hbad, if_pos (.inl (by decide))])
        by_cases he : en = 0
        · subst he
          have t7 : decide (0 < nR) = true := decide_eq_true (by
            rcases hbad with h | h
            · exact absurd rfl h
            · have : 0 < r.length := List.length_pos_iff.2 h
              omega)
          go_wp2_with fail
          go_ret2
          rw [HE.out, HV.out]
          exact ⟨_, _, _, rfl, Rs.nil _ _, Nat.le_refl _, by omega, HB6.out⟩
        · have t7 : (en != 0) = true := by simp [he]
          go_wp2_with fail
          go_ret2
          rw [HE.out, HV.out]
          exact ⟨_, _, _, rfl, Rs.nil _ _, Nat.le_refl _, by omega, HB6.out⟩
      obtain ⟨rfl, rfl⟩ : en = 0 ∧ r = [] := ⟨Decidable.not_not.1 fun h => hbad (.inl h), Decidable.not_not.1 fun h => hbad (.inr h)⟩
      obtain rfl : nR = 0 := hrl.symm
      have HN : Hid (numsT b0 many = (N, 0)) := Lib.hid (by rw [HNQ.out, if_neg hbad])
      have HV : Hid (idxC b0 b1 b2 many texts = if ew ≠ 0 ∨ risingB W = false then (([], 2) : List ByteArray × Int) else optT (indexT W N)) := Lib.hid (by
        unfold idxC; rw [HN.out, HWQ.out]; simp)
      have hcut := Lib.hid (cutS_dr w6 G2 G1 m2 c2 m1 c1 b2 b1 HS62.out HU2.out (by omega) HS61.out HU1.out (by omega) texts)
      clear hbad
      go_wp2_with fail
      go_region_held3 (fun w' => w'.cell? ⟨w.heap.size, 2, none⟩ = some (.int .i64 texts) ∧ w'.cell? ⟨w.heap.size, 3, none⟩ = some (.slice (some ⟨b, o, none⟩) 3 k) ∧ w'.cell? ⟨b, o + 2 + 1, none⟩ = some (.slice G1 m1 c1) ∧ w'.cell? ⟨b, o + 4 + 1, none⟩ = some (.slice G2 m2 c2)) (first | (with_reducible exact ⟨r2, r3, rs1, rs2⟩) | (with_reducible exact ⟨i2, i3, is1, is2⟩))
        (first | (go_at_call 32; refine hcut.out.mono ?_; rintro e w7 ⟨GW, nW, cW, rfl, hs, hcw, hcm, hb⟩; have i2 := (hb.cell (p := ⟨w.heap.size, 2, none⟩) hz6).trans r2; have i3 := (hb.cell (p := ⟨w.heap.size, 3, none⟩) hz6).trans r3; have is1 := (hb.cell (p := ⟨b, o + 2 + 1, none⟩) hl6).trans rs1; have is2 := (hb.cell (p := ⟨b, o + 4 + 1, none⟩) hl6).trans rs2))
      have hb7 := on (Below.refl _ w6).drew hb
      rw [HWQ.out] at hs ⊢
      have hwl := hs.len
      have HB7 := Lib.hid (on HB6.out hb7)
      have HSN7 := Lib.hid (HSN6.out.below hb7)
      have HRW := Lib.hid hs
      clear hb hb7 hs i2 i3 is1 is2 r2 r3 rs1 rs2 hcut
      rcases HWE.out with rfl | ⟨rfl, rfl⟩
      case inr =>
        have HVV : Hid (idxC b0 b1 b2 many texts = ([], 2)) := Lib.hid (by rw [HV.out, if_pos (.inl (by decide))])
        go_wp2_with fail
        go_ret2
        rw [HE.out, HVV.out]
        exact ⟨_, _, _, rfl, Rs.nil _ _, Nat.le_refl _, by omega, HB7.out⟩
      have HALLW := Lib.hid (fun h0 => HRW.out.all h0)
      have hWl := HWL.out
      go_wp2_with fail
      go_loopg [10] nW (fun gg v wr => ∃ i : Nat, v = .int .i64 i ∧ 1 ≤ i ∧ (i ≤ nW ∨ i = 1) ∧ nW - i ≤ gg ∧ Hid (∀ j, j + 1 < i → j + 1 < W.length → (W.getD j ⟨#[]⟩).data.toList < (W.getD (j + 1) ⟨#[]⟩).data.toList) ∧ ∃ q, wr = w7.drewN q)
      case atStart => exact ⟨1, rfl, by omega, by omega, by omega, Lib.hid (fun j h _ => by omega), 0, rfl⟩
      case round =>
      obtain ⟨i, rfl, hi1, hiw, hgi, hup, q, rfl⟩ := hrel
      by_cases hlt : i < nW
      · have t7 : decide (i < nW) = true := decide_eq_true hlt
        obtain ⟨p, rfl⟩ : ∃ p, i = p + 1 := ⟨i - 1, by omega⟩
        obtain ⟨wb, wo, hGW, hwb, hwc⟩ := HALLW.out (by omega)
        have hp0 : p < W.length := by omega
        have hp1 : p + 1 < W.length := by omega
        have ca := hwc p hp0
        have cb := hwc (p + 1) hp1
        have HG0 : Hid (W.getD p ⟨#[]⟩ = W[p]) := Lib.hid (by rw [List.getD_eq_getElem?_getD, List.getElem?_eq_getElem hp0]; rfl)
        have HG1 : Hid (W.getD (p + 1) ⟨#[]⟩ = W[p + 1]) := Lib.hid (by rw [List.getD_eq_getElem?_getD, List.getElem?_eq_getElem hp1]; rfl)
        generalize W[p] = x at ca HG0
        generalize W[p + 1] = z at cb HG1
        subst hGW
        clear hwc
        by_cases hxz : x.data.toList < z.data.toList
        · have e1 : Op.bytesLess x.toList z.toList = true := by rw [less_ltT]; exact decide_eq_true hxz
          have e2 : (x.toList == z.toList) = false := by rw [str_beqT]; exact decide_eq_false fun h => List.lt_irrefl _ (h ▸ hxz)
          have HUP : Hid (∀ j, j + 1 < p + 1 + 1 → j + 1 < W.length → (W.getD j ⟨#[]⟩).data.toList < (W.getD (j + 1) ⟨#[]⟩).data.toList) := Lib.hid (fun j h1 h2 => by
            by_cases h : j = p
            · subst h; rw [HG0.out, HG1.out]; exact hxz
            · exact hup.out j (by omega) h2)
          clear hxz
          go_wp2_with fail
          go_quiet (fail)
          go_wp2_with fail
          go_roundg (nW - (p + 1 + 1))
          case measure => omega
          case rel => exact ⟨p + 1 + 1, by go_num, by omega, by omega, by omega, HUP, _, rfl⟩
        · have e1 : Op.bytesLess x.toList z.toList = false := by rw [less_ltT]; exact decide_eq_false hxz
          have HVV : Hid (idxC b0 b1 b2 many texts = ([], 2)) := Lib.hid (by
            have : risingB W = false := by
              cases h : risingB W with
              | false => rfl
              | true =>
                have h2 := List.all_eq_true.1 h p (List.mem_range.2 (by omega))
                rw [HG0.out, HG1.out] at h2
                exact absurd (of_decide_eq_true h2) hxz
            rw [HV.out, if_pos (.inr this)])
          clear hxz
          go_wp2_with fail
          go_quiet (fail)
          go_wp2_with fail
          go_ret2
          rw [HE.out, HVV.out]
          exact ⟨_, _, _, rfl, Rs.nil _ _, Nat.le_refl _, by omega, bdN (bdN HB7.out _) _⟩
      have t7 : decide (i < nW) = false := decide_eq_false hlt
      have HVV : Hid (idxC b0 b1 b2 many texts = optT (indexT W N)) := Lib.hid (by
        have : risingB W = true := (risingB_iff W).2 (adj_rising fun j hj => hup.out j (by omega) hj)
        rw [HV.out, if_neg (by rw [this]; simp)])
      obtain ⟨w8, hw8⟩ : ∃ w8, w8 = w7.drewN q := ⟨_, rfl⟩
      obtain ⟨wa, hwa⟩ : ∃ wa, wa = w8.alloc (.cells #[] 9) := ⟨_, rfl⟩
      have HB8 : Hid (Below w.heap.size w w8) := Lib.hid (hw8 ▸ bdN HB7.out q)
      have HSN8 : Hid (Sl w8 .i64 GN nN cN N) := Lib.hid (hw8 ▸ HSN7.out)
      have HRW8 : Hid (Rs w8 GW nW W) := Lib.hid (hw8 ▸ HRW.out)
      have HO : Hid (wa.ownsRow w8.heap.size 9 1 (.slice (some ⟨w8.heap.size, 0, none⟩) 0 0) 0 (([] : List ByteArray).map Value.string)) := Lib.hid (hwa ▸ own_empty w8 9 1)
      have HBA : Hid (Below w8.heap.size w8 wa) := Lib.hid (hwa ▸ (Below.refl w8.heap.size w8).alloc (Nat.le_refl _) _)
      have HALLN := Lib.hid (fun h0 => HSN8.out.1.2 h0)
      have HALL8 := Lib.hid (fun h0 => HRW8.out.all h0)
      have hlim := HNG.out.2
      rw [← hw8]
      clear hup hw8 HALLW
      go_wp2_with fail
      rw [← hwa]
      clear hwa
      go_loopg [11, 12] nN (fun gg v11 v wr => ∃ (j : Nat) (O : List ByteArray), v = .int .i64 j ∧ j ≤ nN ∧ nN - j ≤ gg ∧ Hid (wr.ownsRow w8.heap.size 9 1 v11 j (O.map Value.string)) ∧ Hid (indexT W N = (indexT W (N.drop j)).map (O ++ ·)) ∧ Hid (Below w8.heap.size w8 wr))
      case atStart => exact ⟨0, [], rfl, by omega, by omega, HO, Lib.hid (by rw [List.drop_zero]; cases indexT W N <;> rfl), HBA⟩
      case round =>
      obtain ⟨j, O, rfl, hjn, hgg, ho, hcx, hb⟩ := hrel
      obtain ⟨GO, cO, hGO⟩ := own_form ho.out
      subst hGO
      have hz := hb.out.size
      by_cases hlt : j < nN
      · have t3 : decide (j < nN) = true := decide_eq_true hlt
        obtain ⟨gb, go, hG, hgb, hcells⟩ := HALLN.out (by omega)
        have hj : j < N.length := by omega
        have cj := (hb.out.cell (p := ⟨gb, go + j, none⟩) hgb).trans (hcells j _ (by rw [List.getElem?_map, List.getElem?_eq_getElem hj]; rfl))
        have HDR := Lib.hid (List.drop_eq_getElem_cons hj)
        have h0 := HNN.out _ (List.getElem_mem hj)
        have h64 := HNG.out.1 _ (List.getElem_mem hj)
        obtain ⟨kk, hkk⟩ : ∃ kk : Nat, N[j] = (kk : Int) := ⟨N[j].toNat, by omega⟩
        rw [hkk] at cj HDR h64
        subst hG
        clear hcells hkk h0
        by_cases hbad : nW ≤ kk
        · have t4 : decide ((nW : Int) ≤ (kk : Int)) = true := decide_eq_true (by omega)
          have HVW : Hid (idxC b0 b1 b2 many texts = ([], 2)) := Lib.hid (by rw [HVV.out, hcx.out, HDR.out, indexT_bad (by omega)]; rfl)
          go_wp2_with fail
          go_ret2
          rw [HE.out, HVW.out]
          exact ⟨_, _, _, rfl, Rs.nil _ _, Nat.le_refl _, by omega, on HB8.out hb.out⟩
        · have t4 : decide ((nW : Int) ≤ (kk : Int)) = false := decide_eq_false (by omega)
          obtain ⟨wb, wo, hGW, hwb, hwc⟩ := HALL8.out (by omega)
          subst hGW
          have hkl : kk < W.length := by omega
          have ck := (hb.out.cell (p := ⟨wb, wo + kk, none⟩) hwb).trans (hwc kk hkl)
          have HST := Lib.hid (indexT_step (r := N.drop (j + 1)) hkl)
          generalize W[kk] = x at ck HST
          have HO2 := Lib.hid (own_below ho.out ((Below.refl wr.heap.size wr).alloc (Nat.le_refl _) (.cells #[.string x] 9)))
          have HOB := Lib.hid (Rs.one wr x 9)
          clear hwc
          go_wp2_with (at_builtin; refine wpList_str _ rfl (.tmp 135) (.tmp 143) rfl w8.heap.size _ j _ rfl HO2.out _ _ _ [x] rfl HOB.out (by omega) (by simp; omega) ?_; intro GZ cZ w9 ho9 hg9 _)
          have HB9 := Lib.hid (push_ hb.out (Nat.le_refl _) ho.out hg9)
          have HO9 := Lib.hid ho9
          have HX9 : Hid (indexT W N = (indexT W (N.drop (j + 1))).map ((O ++ [x]) ++ ·)) := Lib.hid (by
            rw [hcx.out, HDR.out, HST.out, Option.map_map]
            congr 1
            funext y
            simp)
          clear ho9 hg9
          go_wp2_with fail
          go_roundg (nN - (j + 1))
          case measure => omega
          case rel => exact ⟨j + 1, _, by go_num, by omega, by omega, HO9, HX9, HB9⟩
      · have t3 : decide (j < nN) = false := decide_eq_false hlt
        obtain rfl : j = nN := by omega
        have hnd : N.drop j = [] := List.drop_of_length_le (by omega)
        have hcap := own_cap ho.out
        have HVW : Hid (idxC b0 b1 b2 many texts = (O, 0)) := Lib.hid (by rw [HVV.out, hcx.out, hnd]; simp [optT, indexT])
        go_wp2_with fail
        go_ret2
        rw [HE.out, HVW.out]
        exact ⟨_, _, _, rfl, Rs.of_own ho.out, hcap.1, hcap.2, on HB8.out hb.out⟩
    · rw [decide_eq_false hk]
      have HE : Hid (takeT ⟨many, 2, texts, S⟩ = ([], 2)) := Lib.hid (by unfold takeT; rw [if_neg HMM.out, if_neg (fun h => absurd h.1 (by show ¬ ((2 : Int) = 1); decide)), if_neg (fun h => hk h.2.1)])
      go_wp2_with fail
      go_ret2
      rw [HE.out]
      exact ⟨_, _, _, rfl, Rs.nil _ _, Nat.le_refl _, by omega, HB5.out⟩
  · have HE : Hid (takeT ⟨many, enc, texts, S⟩ = ([], 2)) := Lib.hid (by unfold takeT; rw [if_neg HMM.out, if_neg (fun h => he1 h.1), if_neg (fun h => he2 h.1)])
    have t4 : (enc != 2) = true := by simp [he2]
    obtain ⟨bo, hbo⟩ : ∃ bo, decide (S.map Prod.fst = [2, 3, 4]) = bo := ⟨_, rfl⟩
    rw [hbo]
    go_wp2_with fail
    go_ret2
    rw [HE.out]
    exact ⟨_, _, _, rfl, Rs.nil _ _, Nat.le_refl _, by omega, HB5.out⟩
end Go.Proofs.YtmejoococajikaaGreat

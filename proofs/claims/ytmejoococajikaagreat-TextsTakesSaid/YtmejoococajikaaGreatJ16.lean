/- Joined texts: DPut. Each has its own head line. No condition beyond those that its theorems state. -/
import Derived.Deep.RegionWith
import Derived.Test.YtmejoococajikaaGreatJ15
import Derived.Test.YtmejoococajikaaGreatJ10
import Derived.Test.YtmejoococajikaaGreatJ12
set_option linter.unusedVariables false

/- delta.Put. -/
namespace Go.Proofs.YtmejoococajikaaGreat
open Go.RowKit

def tailDe (l : List Int) : List Int := if sameD l (l.length - 1) then [] else (dsz l (l.length - 1)).drop 1
def widthDe (l : List Int) : Int := if sameD l (l.length - 1) then 0 else wClosest (max 2 (mostBits ((dsz l (l.length - 1)).drop 1) : Int))
def codeDe (l : List Int) : Int := if sameD l (l.length - 1) then 0 else wCode (widthDe l)
def badDe (l : List Int) (s : Bool) : Prop := l.length < 2 ∨ 512 < l.length ∨ (s = false ∧ l.any (fun x => decide (x < 0)) = true) ∨ okD l (l.length - 1) = false
instance (l : List Int) (s : Bool) : Decidable (badDe l s) := by unfold badDe; infer_instance
/-- What numbers come to, laid down by how much they rise or fall. -/
def putDe (l : List Int) (s : Bool) : List Int × Int :=
  if badDe l s then ([], 1)
  else (headR 3 (codeDe l) l.length ++ vput (unsN (l.getD 0 0) s) ++ vput (unsN (dAt l 0) true) ++ (packR (tailDe l) (widthDe l)).1, 0)
theorem dsz_u64 (l : List Int) (m : Nat) (h : okD l m = true) : ∀ x ∈ dsz l m, 0 ≤ x ∧ x < 9223372036854775808 := by
  intro x hx
  obtain ⟨j, hj, rfl⟩ := List.mem_map.1 hx
  have h1 := List.all_eq_true.1 h j hj
  unfold okAt at h1
  simp only [Bool.and_eq_true, decide_eq_true_eq] at h1
  refine ⟨?_, h1.1⟩
  unfold absI; split <;> omega
theorem tail_u64 (l : List Int) (m : Nat) (h : okD l m = true) : U64 ((dsz l m).drop 1) := fun x hx => by
  have := dsz_u64 l m h x (List.mem_of_mem_drop hx)
  omega
theorem most2_room (u : List Int) (h : U64 u) : ∃ k : Nat, wClosest (max 2 (mostBits u : Int)) = (k : Int) ∧ 2 ≤ k ∧ k ≤ 64 ∧ u.all (roomB k) = true := by
  have hm := mostBits_le u h
  have h1 := wClosest_room (max 2 (mostBits u : Int)) (by omega) (by omega)
  refine ⟨(wClosest (max 2 (mostBits u : Int))).toNat, by omega, by omega, by omega, List.all_eq_true.2 fun y hy => ?_⟩
  unfold roomB
  refine decide_eq_true (.inr ?_)
  have h2 := mostBits_mem u y hy
  exact Nat.lt_of_lt_of_le (blen_lt _) (Nat.pow_le_pow_right (by omega) (by omega))
theorem dAt0_range (l : List Int) (m : Nat) (hm : 0 < m) (h : okD l m = true) : I64x (dAt l 0) ∧ absI (dAt l 0) < 9223372036854775808 := by
  have h1 := dsz_u64 l m h (absI (dAt l 0)) (List.mem_map.2 ⟨0, List.mem_range.2 hm, rfl⟩)
  refine ⟨?_, h1.2⟩
  unfold absI at h1
  unfold I64x
  split at h1 <;> omega

set_option maxRecDepth 100000 in
set_option maxHeartbeats 1000000 in
theorem number_any (w : World) (u : Int) (f : Bool) (hu : 0 ≤ u ∧ u < 9223372036854775808) :
    Calls Tryz.prog 126 #[.agg #[.int .u64 u, .bool f]] w fun e w' => e = .returned (.int .i64 (if f then -u else u)) ∧ Below w.heap.size w w' := by
  obtain ⟨h1, h2⟩ := hu
  cases f
  all_goals
    go_enter Tryz.func126, Tryz.ntmps126
    go_wp2_with fail
    go_ret
    exact ⟨rfl, (Below.refl w.heap.size w).alloc (Nat.le_refl _) _⟩
theorem numb_eq (l : List Int) : (if decide (dAt l 0 < 0) = true then -absI (dAt l 0) else absI (dAt l 0)) = dAt l 0 := by
  unfold absI
  by_cases h : dAt l 0 < 0
  · simp [h]
  · simp [h]
theorem putDe_bad {l : List Int} {s : Bool} {r : List Int} {er : Int} (hl : putDe l s = (r, er)) (h : badDe l s) : r = [] ∧ er = 1 := by
  unfold putDe at hl
  rw [if_pos h] at hl
  injection hl with h1 h2
  exact ⟨h1.symm, h2.symm⟩
theorem head_len (k c m : Int) : (headR k c m).length ≤ 2 := by unfold headR; split <;> simp

set_option maxRecDepth 100000 in
set_option maxHeartbeats 4000000 in
theorem DePut_any (w : World) (A : Option Addr) (n cap : Nat) (l : List Int) (hr : Ri w .i64 A n l) (hu : I64 l) (hc : n ≤ cap) (hm : cap ≤ 9223372036854775807) (hn : n ≤ 100000) (s : Bool) (r : List Int) (er : Int) (hl : putDe l s = (r, er)) :
    Calls Tryz.prog 81 #[.slice A n cap, .bool s] w (BytesErr w r er) := by
  have HR := Lib.hid hr; have HU := Lib.hid hu; have HN := Lib.hid hr.len
  clear hr hu
  by_cases hlen : n < 2 ∨ 512 < n
  · obtain ⟨rfl, rfl⟩ := putDe_bad hl (by rw [badDe, HN.out]; omega)
    clear hl
    rcases hlen with hlen | hlen
    all_goals
      go_enter Tryz.func81, Tryz.ntmps81
      go_wp2_with fail
      go_ret2
      exact ⟨none, 0, 0, rfl, Sl.nil _ _, Below.refl _ _⟩
  · obtain ⟨hn2, hn5⟩ : 2 ≤ n ∧ n ≤ 512 := by omega
    clear hlen
    have hmin := minL_neg l (by rw [HN.out]; omega)
    have hmr : I64x (minL l) := by
      unfold minL
      rcases minL_mem l (l.getD 0 0) with h | h
      · rw [h]; exact getD_i64x HU.out 0
      · exact HU.out _ h
    obtain ⟨M, hM⟩ : ∃ M, M = minL l := ⟨_, rfl⟩
    rw [← hM] at hmin hmr
    have HM := Lib.hid hM
    clear hM
    have hneg : s = false ∧ M < 0 ∨ ¬ (s = false ∧ M < 0) := Classical.em _
    rcases hneg with ⟨rfl, hneg⟩ | hpos
    · obtain ⟨rfl, rfl⟩ := putDe_bad hl (by rw [badDe]; exact .inr (.inr (.inl ⟨rfl, hmin.1 hneg⟩)))
      clear hl hmin
      go_enter Tryz.func81, Tryz.ntmps81
      go_wp2_with fail
      refine (Min_any _ _ _ _ l HR.out (by omega) (by omega)).mono ?_; rintro e w' ⟨rfl, rfl⟩
      rw [← HM.out]
      go_wp2_with fail
      go_ret2
      exact ⟨none, 0, 0, rfl, Sl.nil _ _, Below.refl _ _⟩
    · have HPOS : Hid (s = false → ¬ l.any (fun x => decide (x < 0)) = true) := Lib.hid fun h h2 => hpos ⟨h, hmin.2 h2⟩
      have hpos' : s = true ∨ (s = false ∧ ¬ M < 0) := by
        cases s
        · exact .inr ⟨rfl, fun h => hpos ⟨rfl, h⟩⟩
        · exact .inl rfl
      obtain ⟨u, f, L, sm, ok, hd⟩ : ∃ u f L sm ok, diffsR l = (u, f, L, sm, ok) := ⟨_, _, _, _, _, rfl⟩
      have HD := Lib.hid hd
      have hd2 := hd
      unfold diffsR at hd2
      rw [HN.out] at hd2
      clear hpos hmin
      cases hok : okD l (n - 1)
      · obtain ⟨rfl, rfl⟩ := putDe_bad hl (by rw [badDe, HN.out]; exact .inr (.inr (.inr hok)))
        rw [hok, if_neg (by decide)] at hd2
        injection hd2 with h1 h; injection h with h2 h; injection h with h3 h; injection h with h4 h5
        subst h1 h2 h3 h4 h5
        clear hl hd hok
        rcases hpos' with rfl | ⟨rfl, hM0⟩
        · go_enter Tryz.func81, Tryz.ntmps81
          go_wp2_with fail
          refine (diffs_any _ _ _ _ l HR.out HU.out hc hm (by omega) hn2 0 false [] false false HD.out).mono ?_; rintro e w1 ⟨G1, n1, c1, rfl, hs1, hb1⟩
          go_wp2_with fail
          go_ret2
          exact ⟨none, 0, 0, rfl, Sl.nil _ _, hb1.alloc hb1.size _⟩
        · go_enter Tryz.func81, Tryz.ntmps81
          go_wp2_with fail
          refine (Min_any _ _ _ _ l HR.out (by omega) (by omega)).mono ?_; rintro e w' ⟨rfl, rfl⟩
          rw [← HM.out]
          go_wp2_with fail
          refine (diffs_any _ _ _ _ l HR.out HU.out hc hm (by omega) hn2 0 false [] false false HD.out).mono ?_; rintro e w1 ⟨G1, n1, c1, rfl, hs1, hb1⟩
          go_wp2_with fail
          go_ret2
          exact ⟨none, 0, 0, rfl, Sl.nil _ _, hb1.alloc hb1.size _⟩
      · rw [hok, if_pos rfl] at hd2
        injection hd2 with h1 h; injection h with h2 h; injection h with h3 h; injection h with h4 h5
        subst h1 h2 h3 h5
        have hput := hl
        unfold putDe at hput
        rw [if_neg (fun hb => by rw [badDe, HN.out, hok] at hb; rcases hb with h | h | ⟨h, h'⟩ | h <;> first | omega | exact HPOS.out h h' | cases h)] at hput
        injection hput with e1 e2
        subst e2
        have HE := Lib.hid e1
        have hd0 := dAt0_range l (n - 1) (by omega) hok
        have hx0 := getD_i64x HU.out 0
        have hnum := Lib.hid (numb_eq l)
        have hut := Lib.hid (tail_u64 l (n - 1) hok)
        have htl : Hid (((dsz l (n - 1)).drop 1).length = n - 2) := Lib.hid (by rw [List.length_drop, dsz_len]; omega)
        obtain ⟨bb, oo, hA, hbl, hcells⟩ := HR.out.all (by omega)
        subst hA
        have hc0 := hcells 0 (by omega)
        rw [Nat.add_zero] at hc0
        unfold I64x at hx0
        have hab : 0 ≤ absI (dAt l 0) := by unfold absI; split <;> omega
        obtain ⟨hd01, hd02⟩ := hd0
        have HD01 := Lib.hid hd01; have HX0 := Lib.hid hx0
        have HC0 := Lib.hid hc0
        clear hl hd e1 hok hcells hd01 hc0 hx0
        generalize absI (dAt l 0) = u at *
        generalize decide (dAt l 0 < 0) = f at *
        generalize dAt l 0 = d0 at *
        cases sm
        · rw [show tailDe l = (dsz l (n - 1)).drop 1 from by unfold tailDe; rw [HN.out, h4]; rfl, show codeDe l = wCode (widthDe l) from by unfold codeDe; rw [HN.out, h4]; rfl, show widthDe l = wClosest (max 2 (mostBits ((dsz l (n - 1)).drop 1) : Int)) from by unfold widthDe; rw [HN.out, h4]; rfl, HN.out] at HE
          obtain ⟨K, hkw, hk2, hk64, hroom⟩ := most2_room _ hut.out
          obtain ⟨P, hpp, hpl0⟩ := packR_ok _ K hk64 (by rw [htl.out]; omega) hroom
          rw [hkw, hpp] at HE
          have hpl : P.length ≤ 4096 := by
            rw [htl.out] at hpl0
            have : (n - 2) * K ≤ 510 * 64 := Nat.mul_le_mul (by omega) hk64
            omega
          have HPP := Lib.hid hpp; have HKW := Lib.hid hkw
          have hmm := mostBits_le _ hut.out
          obtain ⟨MB, hmb⟩ : ∃ MB, MB = mostBits ((dsz l (n - 1)).drop 1) := ⟨_, rfl⟩
          rw [← hmb] at HKW hmm
          have HMM : Hid (mostBits ((dsz l (n - 1)).drop 1) = MB) := Lib.hid hmb.symm
          clear hpp hkw hroom hpl0 hmb h4
          rcases hpos' with rfl | ⟨rfl, hM0⟩
          · go_enter Tryz.func81, Tryz.ntmps81
            go_wp2_with fail
            refine (diffs_any _ _ _ _ l HR.out HU.out hc hm (by omega) hn2 _ _ _ _ true HD.out).mono ?_; rintro e w1 ⟨G1, n1, c1, rfl, hs1, hb1⟩
            have hn1 := hs1.1.len
            rw [htl.out] at hn1
            have HK := Lib.hid (Blk.new w1 145 #[.int .u64 u, .bool f])
            have HS1 := Lib.hid (hs1.1.alloc (.cells #[.int .u64 u, .bool f] 145)); have HB1 := Lib.hid (hb1.alloc hb1.size (.cells #[.int .u64 u, .bool f] 145))
            clear hs1 hb1
            go_wp2_with fail
            refine (Most_any _ _ _ _ _ HS1.out hut.out (by omega)).mono ?_; rintro e w' ⟨rfl, rfl⟩
            rw [HMM.out]
            go_wp2_with fail
            all_goals
              refine (Closest_any _ _).mono ?_; rintro e w2 ⟨rfl, hb2⟩
              rw [show wClosest _ = (K : Int) from by first | exact HKW.out | (have h := HKW.out; rw [Int.max_eq_left (by omega)] at h; exact h) | (have h := HKW.out; rw [Int.max_eq_right (by omega)] at h; exact h)]
              go_wp2_with fail
              refine (Code_any _ _).mono ?_; rintro e w3 ⟨rfl, hb3⟩
              go_wp2_with fail
              refine (Pack_any _ _ _ _ _ K ((HS1.out.below hb2).below hb3) hut.out (by omega) P 0 HPP.out).mono ?_; rintro e w4 ⟨G4, n4, c4, rfl, hs4, hb4⟩
              have HB4 := Lib.hid (on (on (on HB1.out hb2) hb3) hb4); have HK4 := Lib.hid (((HK.out.below_ hb2).below_ hb3).below_ hb4); have HS4 := Lib.hid hs4
              clear hb2 hb3 hb4 hs4
              have hc4 := (HB4.out.cell (p := ⟨bb, oo, none⟩) hbl).trans HC0.out
              have hc4d : w4.drew.cell? ⟨bb, oo, none⟩ = some (.int .i64 (l.getD 0 0)) := hc4
              have hn4 := HS4.out.1.len
              have hh2 := head_len 3 (wCode (K : Int)) (n : Int)
              generalize hx : l.getD 0 0 = x at *
              go_wp2_with fail
              go_region_with (
                first
                | (go_at_call 122; refine (Head_any _ _ _ _).mono ?_; rintro e w6 ⟨G6, n6, c6, rfl, hs6, hb6⟩; have hc6 := (hb6.cell (p := ⟨bb, oo, none⟩) (show bb < w4.drew.heap.size from Nat.lt_of_lt_of_le hbl HB4.out.size)).trans hc4d; have hn6 := hs6.1.len)
                | (go_at_call 125; refine (PutInt_any _ _ _ _ _ hs6.1 (by omega) _ HX0.out _).mono ?_; rintro e w7 ⟨G7, n7, c7, rfl, hs7, hb7⟩))
              all_goals
                have HB7 := Lib.hid (on (on (Below.refl w4.heap.size w4).drew hb6) hb7)
                have hk7 := HK4.out.below_ HB7.out
                have k0 : w7.cell? ⟨w1.heap.size, 0, none⟩ = some (.int .u64 u) := (hk7.cell 0).trans rfl
                have k1 : w7.cell? ⟨w1.heap.size, 1, none⟩ = some (.bool f) := (hk7.cell 1).trans rfl
                have HS7 := Lib.hid hs7; have HS47 := Lib.hid (HS4.out.1.below HB7.out)
                have hn7 := hs7.1.len
                rw [List.length_append] at hn7
                have hv1 := (vput_len 9 (unsN x true)).2
                have hv2 := (vput_len 9 (unsN d0 true)).2
                clear hs7 hs6 hb6 hb7 hc6 hc4 hc4d hk7
                unfold vput at hn7
                go_wp2_with fail
                refine (number_any _ u f ⟨hab, hd02⟩).mono ?_; rintro e w8 ⟨rfl, hb8⟩
                rw [hnum.out]
                go_wp2_with fail
                refine (PutInt_any _ _ _ _ _ (HS7.out.1.below hb8) (by omega) _ HD01.out true).mono ?_; rintro e w9 ⟨G9, n9, c9, rfl, hs9, hb9⟩
                have hn9 := hs9.1.len
                rw [List.length_append, List.length_append] at hn9
                unfold vput at hn9
                go_wp2_with fail
                refine (Concat_any _ _ _ _ _ _ _ _ _ _ (Blk.new w9 _ _) (hs9.1.alloc _) (((HS47.out.below hb8).below hb9).alloc _) (by omega) (by omega)).mono ?_; rintro e wA ⟨GA, nA, cA, rfl, hsA, hbA⟩
                go_wp2_with fail
                go_ret2
                rw [← HE.out]
                exact ⟨_, _, _, rfl, hsA, on (on (on (on HB4.out HB7.out) hb8) hb9) (on ((Below.refl w9.heap.size w9).alloc (Nat.le_refl _) _) hbA)⟩
          · go_enter Tryz.func81, Tryz.ntmps81
            go_wp2_with fail
            refine (Min_any _ _ _ _ l HR.out (by omega) (by omega)).mono ?_; rintro e w' ⟨rfl, rfl⟩
            rw [← HM.out]
            go_wp2_with fail
            refine (diffs_any _ _ _ _ l HR.out HU.out hc hm (by omega) hn2 _ _ _ _ true HD.out).mono ?_; rintro e w1 ⟨G1, n1, c1, rfl, hs1, hb1⟩
            have hn1 := hs1.1.len
            rw [htl.out] at hn1
            have HK := Lib.hid (Blk.new w1 145 #[.int .u64 u, .bool f])
            have HS1 := Lib.hid (hs1.1.alloc (.cells #[.int .u64 u, .bool f] 145)); have HB1 := Lib.hid (hb1.alloc hb1.size (.cells #[.int .u64 u, .bool f] 145))
            clear hs1 hb1
            go_wp2_with fail
            refine (Most_any _ _ _ _ _ HS1.out hut.out (by omega)).mono ?_; rintro e w' ⟨rfl, rfl⟩
            rw [HMM.out]
            go_wp2_with fail
            all_goals
              refine (Closest_any _ _).mono ?_; rintro e w2 ⟨rfl, hb2⟩
              rw [show wClosest _ = (K : Int) from by first | exact HKW.out | (have h := HKW.out; rw [Int.max_eq_left (by omega)] at h; exact h) | (have h := HKW.out; rw [Int.max_eq_right (by omega)] at h; exact h)]
              go_wp2_with fail
              refine (Code_any _ _).mono ?_; rintro e w3 ⟨rfl, hb3⟩
              go_wp2_with fail
              refine (Pack_any _ _ _ _ _ K ((HS1.out.below hb2).below hb3) hut.out (by omega) P 0 HPP.out).mono ?_; rintro e w4 ⟨G4, n4, c4, rfl, hs4, hb4⟩
              have HB4 := Lib.hid (on (on (on HB1.out hb2) hb3) hb4); have HK4 := Lib.hid (((HK.out.below_ hb2).below_ hb3).below_ hb4); have HS4 := Lib.hid hs4
              clear hb2 hb3 hb4 hs4
              have hc4 := (HB4.out.cell (p := ⟨bb, oo, none⟩) hbl).trans HC0.out
              have hc4d : w4.drew.cell? ⟨bb, oo, none⟩ = some (.int .i64 (l.getD 0 0)) := hc4
              have hn4 := HS4.out.1.len
              have hh2 := head_len 3 (wCode (K : Int)) (n : Int)
              generalize hx : l.getD 0 0 = x at *
              go_wp2_with fail
              go_region_with (
                first
                | (go_at_call 122; refine (Head_any _ _ _ _).mono ?_; rintro e w6 ⟨G6, n6, c6, rfl, hs6, hb6⟩; have hc6 := (hb6.cell (p := ⟨bb, oo, none⟩) (show bb < w4.drew.heap.size from Nat.lt_of_lt_of_le hbl HB4.out.size)).trans hc4d; have hn6 := hs6.1.len)
                | (go_at_call 125; refine (PutInt_any _ _ _ _ _ hs6.1 (by omega) _ HX0.out _).mono ?_; rintro e w7 ⟨G7, n7, c7, rfl, hs7, hb7⟩))
              all_goals
                have HB7 := Lib.hid (on (on (Below.refl w4.heap.size w4).drew hb6) hb7)
                have hk7 := HK4.out.below_ HB7.out
                have k0 : w7.cell? ⟨w1.heap.size, 0, none⟩ = some (.int .u64 u) := (hk7.cell 0).trans rfl
                have k1 : w7.cell? ⟨w1.heap.size, 1, none⟩ = some (.bool f) := (hk7.cell 1).trans rfl
                have HS7 := Lib.hid hs7; have HS47 := Lib.hid (HS4.out.1.below HB7.out)
                have hn7 := hs7.1.len
                rw [List.length_append] at hn7
                have hv1 := (vput_len 9 (unsN x false)).2
                have hv2 := (vput_len 9 (unsN d0 true)).2
                clear hs7 hs6 hb6 hb7 hc6 hc4 hc4d hk7
                unfold vput at hn7
                go_wp2_with fail
                refine (number_any _ u f ⟨hab, hd02⟩).mono ?_; rintro e w8 ⟨rfl, hb8⟩
                rw [hnum.out]
                go_wp2_with fail
                refine (PutInt_any _ _ _ _ _ (HS7.out.1.below hb8) (by omega) _ HD01.out true).mono ?_; rintro e w9 ⟨G9, n9, c9, rfl, hs9, hb9⟩
                have hn9 := hs9.1.len
                rw [List.length_append, List.length_append] at hn9
                unfold vput at hn9
                go_wp2_with fail
                refine (Concat_any _ _ _ _ _ _ _ _ _ _ (Blk.new w9 _ _) (hs9.1.alloc _) (((HS47.out.below hb8).below hb9).alloc _) (by omega) (by omega)).mono ?_; rintro e wA ⟨GA, nA, cA, rfl, hsA, hbA⟩
                go_wp2_with fail
                go_ret2
                rw [← HE.out]
                exact ⟨_, _, _, rfl, hsA, on (on (on (on HB4.out HB7.out) hb8) hb9) (on ((Below.refl w9.heap.size w9).alloc (Nat.le_refl _) _) hbA)⟩
        · rw [show tailDe l = [] from by unfold tailDe; rw [HN.out, h4]; rfl, show widthDe l = 0 from by unfold widthDe; rw [HN.out, h4]; rfl, show codeDe l = 0 from by unfold codeDe; rw [HN.out, h4]; rfl, HN.out] at HE
          obtain ⟨P, hpp⟩ : ∃ P, P = (packR [] 0).1 := ⟨_, rfl⟩
          rw [← hpp] at HE
          have HPP : Hid (packR [] ((0 : Nat) : Int) = (P, 0)) := Lib.hid (by rw [hpp]; rfl)
          have hpl : P.length ≤ 4096 := by rw [hpp]; decide
          clear hpp h4
          rcases hpos' with rfl | ⟨rfl, hM0⟩
          · go_enter Tryz.func81, Tryz.ntmps81
            go_wp2_with fail
            refine (diffs_any _ _ _ _ l HR.out HU.out hc hm (by omega) hn2 _ _ _ _ true HD.out).mono ?_; rintro e w1 ⟨G1, n1, c1, rfl, hs1, hb1⟩
            have hn1 := hs1.1.len
            rw [htl.out] at hn1
            have HK := Lib.hid (Blk.new w1 145 #[.int .u64 u, .bool f])
            have HS1 := Lib.hid (hs1.1.alloc (.cells #[.int .u64 u, .bool f] 145)); have HB1 := Lib.hid (hb1.alloc hb1.size (.cells #[.int .u64 u, .bool f] 145))
            clear hs1 hb1
            go_wp2_with fail
            refine (Pack_any _ none 0 0 [] 0 (Ri.nil _ _ _) (fun y hy => by cases hy) (by omega) P 0 HPP.out).mono ?_; rintro e w4 ⟨G4, n4, c4, rfl, hs4, hb4⟩
            have HB4 := Lib.hid (on HB1.out hb4); have HK4 := Lib.hid (HK.out.below_ hb4); have HS4 := Lib.hid hs4
            clear hb4 hs4
            have hc4 := (HB4.out.cell (p := ⟨bb, oo, none⟩) hbl).trans HC0.out
            have hc4d : w4.drew.cell? ⟨bb, oo, none⟩ = some (.int .i64 (l.getD 0 0)) := hc4
            have hn4 := HS4.out.1.len
            have hh2 := head_len 3 0 (n : Int)
            generalize hx : l.getD 0 0 = x at *
            go_wp2_with fail
            go_region_with (
              first
              | (go_at_call 122; refine (Head_any _ _ _ _).mono ?_; rintro e w6 ⟨G6, n6, c6, rfl, hs6, hb6⟩; have hc6 := (hb6.cell (p := ⟨bb, oo, none⟩) (show bb < w4.drew.heap.size from Nat.lt_of_lt_of_le hbl HB4.out.size)).trans hc4d; have hn6 := hs6.1.len)
              | (go_at_call 125; refine (PutInt_any _ _ _ _ _ hs6.1 (by omega) _ HX0.out _).mono ?_; rintro e w7 ⟨G7, n7, c7, rfl, hs7, hb7⟩))
            all_goals
              have HB7 := Lib.hid (on (on (Below.refl w4.heap.size w4).drew hb6) hb7)
              have hk7 := HK4.out.below_ HB7.out
              have k0 : w7.cell? ⟨w1.heap.size, 0, none⟩ = some (.int .u64 u) := (hk7.cell 0).trans rfl
              have k1 : w7.cell? ⟨w1.heap.size, 1, none⟩ = some (.bool f) := (hk7.cell 1).trans rfl
              have HS7 := Lib.hid hs7; have HS47 := Lib.hid (HS4.out.1.below HB7.out)
              have hn7 := hs7.1.len
              rw [List.length_append] at hn7
              have hv1 := (vput_len 9 (unsN x true)).2
              have hv2 := (vput_len 9 (unsN d0 true)).2
              clear hs7 hs6 hb6 hb7 hc6 hc4 hc4d hk7
              unfold vput at hn7
              go_wp2_with fail
              refine (number_any _ u f ⟨hab, hd02⟩).mono ?_; rintro e w8 ⟨rfl, hb8⟩
              rw [hnum.out]
              go_wp2_with fail
              refine (PutInt_any _ _ _ _ _ (HS7.out.1.below hb8) (by omega) _ HD01.out true).mono ?_; rintro e w9 ⟨G9, n9, c9, rfl, hs9, hb9⟩
              have hn9 := hs9.1.len
              rw [List.length_append, List.length_append] at hn9
              unfold vput at hn9
              go_wp2_with fail
              refine (Concat_any _ _ _ _ _ _ _ _ _ _ (Blk.new w9 _ _) (hs9.1.alloc _) (((HS47.out.below hb8).below hb9).alloc _) (by omega) (by omega)).mono ?_; rintro e wA ⟨GA, nA, cA, rfl, hsA, hbA⟩
              go_wp2_with fail
              go_ret2
              rw [← HE.out]
              exact ⟨_, _, _, rfl, hsA, on (on (on (on HB4.out HB7.out) hb8) hb9) (on ((Below.refl w9.heap.size w9).alloc (Nat.le_refl _) _) hbA)⟩
          · go_enter Tryz.func81, Tryz.ntmps81
            go_wp2_with fail
            refine (Min_any _ _ _ _ l HR.out (by omega) (by omega)).mono ?_; rintro e w' ⟨rfl, rfl⟩
            rw [← HM.out]
            go_wp2_with fail
            refine (diffs_any _ _ _ _ l HR.out HU.out hc hm (by omega) hn2 _ _ _ _ true HD.out).mono ?_; rintro e w1 ⟨G1, n1, c1, rfl, hs1, hb1⟩
            have hn1 := hs1.1.len
            rw [htl.out] at hn1
            have HK := Lib.hid (Blk.new w1 145 #[.int .u64 u, .bool f])
            have HS1 := Lib.hid (hs1.1.alloc (.cells #[.int .u64 u, .bool f] 145)); have HB1 := Lib.hid (hb1.alloc hb1.size (.cells #[.int .u64 u, .bool f] 145))
            clear hs1 hb1
            go_wp2_with fail
            refine (Pack_any _ none 0 0 [] 0 (Ri.nil _ _ _) (fun y hy => by cases hy) (by omega) P 0 HPP.out).mono ?_; rintro e w4 ⟨G4, n4, c4, rfl, hs4, hb4⟩
            have HB4 := Lib.hid (on HB1.out hb4); have HK4 := Lib.hid (HK.out.below_ hb4); have HS4 := Lib.hid hs4
            clear hb4 hs4
            have hc4 := (HB4.out.cell (p := ⟨bb, oo, none⟩) hbl).trans HC0.out
            have hc4d : w4.drew.cell? ⟨bb, oo, none⟩ = some (.int .i64 (l.getD 0 0)) := hc4
            have hn4 := HS4.out.1.len
            have hh2 := head_len 3 0 (n : Int)
            generalize hx : l.getD 0 0 = x at *
            go_wp2_with fail
            go_region_with (
              first
              | (go_at_call 122; refine (Head_any _ _ _ _).mono ?_; rintro e w6 ⟨G6, n6, c6, rfl, hs6, hb6⟩; have hc6 := (hb6.cell (p := ⟨bb, oo, none⟩) (show bb < w4.drew.heap.size from Nat.lt_of_lt_of_le hbl HB4.out.size)).trans hc4d; have hn6 := hs6.1.len)
              | (go_at_call 125; refine (PutInt_any _ _ _ _ _ hs6.1 (by omega) _ HX0.out _).mono ?_; rintro e w7 ⟨G7, n7, c7, rfl, hs7, hb7⟩))
            all_goals
              have HB7 := Lib.hid (on (on (Below.refl w4.heap.size w4).drew hb6) hb7)
              have hk7 := HK4.out.below_ HB7.out
              have k0 : w7.cell? ⟨w1.heap.size, 0, none⟩ = some (.int .u64 u) := (hk7.cell 0).trans rfl
              have k1 : w7.cell? ⟨w1.heap.size, 1, none⟩ = some (.bool f) := (hk7.cell 1).trans rfl
              have HS7 := Lib.hid hs7; have HS47 := Lib.hid (HS4.out.1.below HB7.out)
              have hn7 := hs7.1.len
              rw [List.length_append] at hn7
              have hv1 := (vput_len 9 (unsN x false)).2
              have hv2 := (vput_len 9 (unsN d0 true)).2
              clear hs7 hs6 hb6 hb7 hc6 hc4 hc4d hk7
              unfold vput at hn7
              go_wp2_with fail
              refine (number_any _ u f ⟨hab, hd02⟩).mono ?_; rintro e w8 ⟨rfl, hb8⟩
              rw [hnum.out]
              go_wp2_with fail
              refine (PutInt_any _ _ _ _ _ (HS7.out.1.below hb8) (by omega) _ HD01.out true).mono ?_; rintro e w9 ⟨G9, n9, c9, rfl, hs9, hb9⟩
              have hn9 := hs9.1.len
              rw [List.length_append, List.length_append] at hn9
              unfold vput at hn9
              go_wp2_with fail
              refine (Concat_any _ _ _ _ _ _ _ _ _ _ (Blk.new w9 _ _) (hs9.1.alloc _) (((HS47.out.below hb8).below hb9).alloc _) (by omega) (by omega)).mono ?_; rintro e wA ⟨GA, nA, cA, rfl, hsA, hbA⟩
              go_wp2_with fail
              go_ret2
              rw [← HE.out]
              exact ⟨_, _, _, rfl, hsA, on (on (on (on HB4.out HB7.out) hb8) hb9) (on ((Below.refl w9.heap.size w9).alloc (Nat.le_refl _) _) hbA)⟩
end Go.Proofs.YtmejoococajikaaGreat

/- Joined texts: IntP, Shown14, IntM, Open. Each has its own head line. No condition beyond those that its theorems state. -/
import Derived.ProofKit
import Derived.OpenShut
import Derived.ShutString
import Derived.ChangeOld
import Derived.Below
import Derived.Test.YtbmooemlekckbaaDoorJ44
import Derived.Test.YtbmooemlekckbaaDoorJ43
import Derived.Test.YtbmooemlekckbaaDoorJ41
import Derived.Test.YtbmooemlekckbaaDoorJ31
import Derived.Test.YtbmooemlekckbaaDoorJ01
set_option linter.unusedVariables false

/- ints.Put. -/
namespace Go.Proofs.YtbmooemlekckbaaDoor
open Go.RowKit

theorem ok_null {k : Int} {v : Val} (h : v.null = true) : okI k v = false := by unfold okI; rw [h]; rfl
theorem all_upto {l : List Val} {k : Int} {n : Nat} (hl : l.length = n) (h : ∀ (q : Nat) (v : Val), q < n → l[q]? = some v → okI k v = true) : l.all (okI k) = true := by
  rw [List.all_eq_true]
  intro v hv
  obtain ⟨q, hq⟩ := List.mem_iff_getElem?.1 hv
  exact h q v (by rw [← hl]; exact (List.getElem?_eq_some_iff.1 hq).1) hq
theorem all_bad {l : List Val} {k : Int} {q : Nat} {v : Val} (hv : l[q]? = some v) (h : okI k v = false) : l.all (okI k) = false := by
  rw [List.all_eq_false]
  exact ⟨v, List.mem_of_getElem? hv, by rw [h]; simp⟩
theorem put_bad {k : Int} {l : List Val} {r : List Int} {er : Int} {n : Nat} (hp : putIn k l = (r, er)) (hk : isNum k = true) (hl : l.length = n) (hn : n ≤ 4096) (h : l.all (okI k) = false) : r = [] ∧ er = 21 := by
  unfold putIn at hp
  rw [hk, if_neg (by simp), if_neg (by omega), if_pos h] at hp
  injection hp with h1 h2
  exact ⟨h1.symm, h2.symm⟩
theorem put_good {k : Int} {l : List Val} {r : List Int} {er : Int} {n : Nat} (hp : putIn k l = (r, er)) (hk : isNum k = true) (hl : l.length = n) (hn : n ≤ 4096) (h : l.all (okI k) = true) :
    (k = 1 ∧ putB (l.map fun v => decide (v.n = 1)) = (r, er)) ∨ (k = 5 ∧ r = (putGl (l.map fun v => v.n / 1000) true).1 ++ (putGl (l.map fun v => v.n % 1000) false).1 ∧ er = 0) ∨ (k ≠ 1 ∧ k ≠ 5 ∧ putGl (l.map fun v => v.n) true = (r, er)) := by
  unfold putIn at hp
  rw [hk, if_neg (by simp), if_neg (by omega), h, if_neg (by simp)] at hp
  split at hp
  · exact .inl ⟨‹_›, hp⟩
  · split at hp
    · injection hp with h1 h2
      exact .inr (.inl ⟨‹_›, h1.symm, h2.symm⟩)
    · exact .inr (.inr ⟨‹_›, ‹_›, hp⟩)

set_option maxRecDepth 100000 in
set_option maxHeartbeats 4000000 in
theorem PutIn_any (w : World) (k : Int) (A : Option Addr) (n cap : Nat) (l : List Val) (hr : Rv w A n l) (hf : ∀ v ∈ l, -9223372036854775808 ≤ v.n ∧ v.n < 9223372036854775808) (hn : n ≤ 100000) (r : List Int) (er : Int) (hp : putIn k l = (r, er)) :
    Calls Tryd.prog 5 #[.int .i64 k, .slice A n cap] w (BytesErr w r er) := by
  have HR := Lib.hid hr; have HN := Lib.hid hr.len; have HF := Lib.hid hf; have HP := Lib.hid hp
  clear hr hf hp
  cases hk : isNum k
  · have HK := Lib.hid hk
    have HZ : Hid (r = [] ∧ er = 1) := by
      have h := HP.out
      unfold putIn at h
      rw [hk, if_pos rfl] at h
      injection h with h1 h2
      exact ⟨h1.symm, h2.symm⟩
    clear hk
    go_enter Tryd.func5, Tryd.ntmps5
    go_wp2_with fail
    refine (Number_any _ _).mono ?_; rintro e w' ⟨rfl, rfl⟩
    rw [HK.out]
    go_wp2_with fail
    go_ret2
    obtain ⟨rfl, rfl⟩ := HZ.out
    exact ⟨_, _, _, rfl, Sl.nil _ _, Below.refl _ _⟩
  · have HK := Lib.hid hk
    clear hk
    by_cases hbig : 4096 < n
    · have HZ : Hid (r = [] ∧ er = 3) := by
        have h := HP.out
        unfold putIn at h
        rw [HK.out, if_neg (by simp), if_pos (by rw [HN.out]; exact hbig)] at h
        injection h with h1 h2
        exact ⟨h1.symm, h2.symm⟩
      go_enter Tryd.func5, Tryd.ntmps5
      go_wp2_with fail
      refine (Number_any _ _).mono ?_; rintro e w' ⟨rfl, rfl⟩
      rw [HK.out]
      go_wp2_with fail
      go_ret2
      obtain ⟨rfl, rfl⟩ := HZ.out
      exact ⟨_, _, _, rfl, Sl.nil _ _, Below.refl _ _⟩
    · have hn4 : n ≤ 4096 := by omega
      clear hbig
      go_enter Tryd.func5, Tryd.ntmps5
      go_wp2_with fail
      refine (Number_any _ _).mono ?_; rintro e w' ⟨rfl, rfl⟩
      rw [HK.out]
      go_wp2_with fail
      go_loopw [7, 21] (fun _ i wr => ∃ j : Nat, j ≤ n ∧ i = .int .i64 j ∧ Hid (∀ (q : Nat) (v : Val), q < j → l[q]? = some v → okI k v = true) ∧ Hid (Below w.heap.size w wr)) (fun _ i _ => n - (intOf i).toNat)
      case atStart => exact ⟨0, by omega, rfl, Lib.hid (fun q v h => absurd h (by omega)), Below.refl _ _⟩
      case round =>
        obtain ⟨j, hj, rfl, hz, hb⟩ := hrel
        by_cases hlt : j < n
        · obtain ⟨b, o, v, hA, hbl, hv, h1, h2, h3⟩ := HR.out.at_ hlt
          subst hA
          have g1 := (hb.out.cell (p := ⟨b, o + j * 3, none⟩) hbl).trans h1
          have g2 := (hb.out.cell (p := ⟨b, o + j * 3 + 1, none⟩) hbl).trans h2
          have g3 := (hb.out.cell (p := ⟨b, o + j * 3 + 2, none⟩) hbl).trans h3
          have hn2 := fit_at HF.out hv
          have HV := Lib.hid hv
          have hsz := hb.out.size
          clear h1 h2 h3 hv
          cases hvn : v.null
          · rw [hvn] at g1
            have HVN := Lib.hid hvn
            clear hvn
            go_wp2_with fail
            refine (May_any _ k HK.out v hn2 HVN.out).mono ?_; rintro e w2 ⟨rfl, hb2⟩
            have HB2 := Lib.hid (hb.out.trans (((Below.refl wr.heap.size wr).alloc (Nat.le_refl _) _).trans (hb2.mono (by simp)) |>.mono hsz))
            clear hb2
            cases hok : okI k v
            · have HBAD := Lib.hid (put_bad HP.out HK.out HN.out hn4 (all_bad HV.out hok))
              clear hok
              go_wp2_with fail
              go_ret2
              obtain ⟨rfl, rfl⟩ := HBAD.out
              exact ⟨_, _, _, rfl, Sl.nil _ _, HB2.out⟩
            · have HOK := Lib.hid hok
              clear hok
              go_wp2_with fail
              go_roundw
              case rel =>
                refine ⟨j + 1, by omega, by go_num, Lib.hid (fun q u h1 h2 => ?_), HB2⟩
                rcases Nat.lt_or_ge q j with h3 | h3
                · exact hz.out q u h3 h2
                · obtain rfl : q = j := by omega
                  rw [HV.out] at h2
                  injection h2 with h2
                  rw [← h2]; exact HOK.out
              case measure => simp [intOf] <;> omega
          · have HBAD := Lib.hid (put_bad HP.out HK.out HN.out hn4 (all_bad HV.out (ok_null hvn)))
            rw [hvn] at g1
            clear hvn
            go_wp2_with fail
            go_ret2
            obtain ⟨rfl, rfl⟩ := HBAD.out
            exact ⟨_, _, _, rfl, Sl.nil _ _, hb.out.alloc hsz _⟩
        · obtain rfl : j = n := by omega
          have HALL := Lib.hid (all_upto HN.out hz.out)
          have HI := Lib.hid (whole_i64 l HF.out)
          have HRW := Lib.hid (HR.out.below hb.out)
          have hgood := put_good HP.out HK.out HN.out hn4 HALL.out
          clear hz hlt
          rcases hgood with ⟨hk1, hput⟩ | ⟨hk5, hr5, he5⟩ | ⟨hk1, hk5, hput⟩
          · have t1 : (k == 1) = true := by simp [hk1]
            have HPUT := Lib.hid hput
            clear hk1 hput
            go_wp2_with fail
            refine (numbersOne_any _ _ _ _ l HRW.out HF.out (by omega)).mono ?_; rintro e w3 ⟨G3, n3, c3, rfl, hs3, hb3⟩
            have HB3 := Lib.hid (on hb.out hb3)
            have hn3 : n3 ≤ 1000000 := by have := hs3.1.len; rw [List.length_map] at this; have := HN.out; omega
            go_wp2_with fail
            refine (BPut_any _ _ _ _ _ hs3.1 hn3 r er HPUT.out).mono ?_; rintro e w4 ⟨G4, n4, c4, rfl, hs4, hb4⟩
            have HB4 := Lib.hid (on HB3.out hb4)
            have HS4 := Lib.hid hs4
            clear hs3 hb3 hs4 hb4
            go_wp2_with fail
            go_ret2
            exact ⟨_, _, _, rfl, HS4.out, HB4.out⟩
          · have t1 : (k == 1) = false := by simp [hk5]
            have t5 : (k == 5) = true := by simp [hk5]
            obtain ⟨p1, hp1, hp18, hp1l⟩ := gl_ok (l.map fun v => v.n / 1000) true HI.out.1 (keep_true _) (by rw [List.length_map, HN.out]; exact hn4)
            obtain ⟨p2, hp2, hp28, hp2l⟩ := gl_ok (l.map fun v => v.n % 1000) false HI.out.2.1 HI.out.2.2.2 (by rw [List.length_map, HN.out]; exact hn4)
            rw [hp1, hp2] at hr5
            have HP1 := Lib.hid hp1; have HP2 := Lib.hid hp2; have HR5 := Lib.hid (And.intro hr5 he5)
            clear hk5 hr5 he5 hp1 hp2 hp18 hp28
            go_wp2_with fail
            refine (numbersWhole_any _ _ _ _ l HRW.out HF.out (by omega)).mono ?_; rintro e w3 ⟨G3, n3, c3, rfl, hs3, hb3⟩
            have HB3 := Lib.hid (on hb.out hb3)
            have hn3 : n3 ≤ 1000000 := by have := hs3.1.len; rw [List.length_map] at this; have := HN.out; omega
            have HRW3 := Lib.hid (HRW.out.below hb3)
            have hc3 := hs3.2
            go_wp2_with fail
            refine (PutGl_own _ _ _ _ _ hs3.1 HI.out.1 hc3.1 hc3.2 hn3 true p1 0 HP1.out).mono ?_; rintro e w4 ⟨G4, n4, c4, rfl, ho4, hb4⟩
            have HB4 := Lib.hid (on HB3.out hb4)
            have HRW4 := Lib.hid (HRW3.out.below hb4)
            have HO4 := Lib.hid ho4
            have hn4' : n4 ≤ 50000 := by have := (Ri.of_own ho4).len; omega
            have HL4 := Lib.hid (Ri.of_own ho4).len
            have HB34 := Lib.hid hb4
            clear hs3 hb3 ho4 hb4 hc3
            go_wp2_with fail
            refine (numbersLeft_any _ _ _ _ l HRW4.out HF.out (by omega)).mono ?_; rintro e w5 ⟨G5, n5, c5, rfl, hs5, hb5⟩
            have hn5 : n5 ≤ 1000000 := by have := hs5.1.len; rw [List.length_map] at this; have := HN.out; omega
            have HB35 := Lib.hid (on HB34.out hb5)
            have HO5 := Lib.hid (own_below HO4.out hb5)
            have hc5 := hs5.2
            go_wp2_with fail
            refine (PutGl_any _ _ _ _ _ hs5.1 HI.out.2.1 hc5.1 hc5.2 hn5 false p2 0 HP2.out).mono ?_; rintro e w6 ⟨G6, n6, c6, rfl, hs6, hb6⟩
            have HB36 := Lib.hid (on HB35.out hb6)
            have HO6 := Lib.hid (own_below HO5.out hb6)
            have HS6 := Lib.hid hs6
            have hn6 : n6 ≤ 50000 := by have := hs6.1.len; omega
            have hz36 := HB36.out.size
            clear hs5 hb5 hs6 hb6 hc5
            go_wp2_with (at_builtin; refine wpList_u8 _ rfl _ _ rfl w3.heap.size _ n4 p1 rfl HO6.out _ n6 c6 p2 rfl HS6.out.1 (by omega) (by omega) ?_; intro G7 c7 w7 hown hgr hcc)
            have HOWN := Lib.hid hown
            have HB37 := Lib.hid (push0 HB36.out (Nat.le_refl _) HO6.out hgr)
            clear hown hgr
            go_wp2_with fail
            go_ret2
            obtain ⟨rfl, rfl⟩ := HR5.out
            exact ⟨_, _, _, rfl, Sl.of_own HOWN.out, on HB3.out HB37.out⟩
          · have t1 : (k == 1) = false := by simp [hk1]
            have t5 : (k == 5) = false := by simp [hk5]
            have HPUT := Lib.hid hput
            clear hk1 hk5 hput
            go_wp2_with fail
            refine (numbersSame_any _ _ _ _ l HRW.out HF.out (by omega)).mono ?_; rintro e w3 ⟨G3, n3, c3, rfl, hs3, hb3⟩
            have HB3 := Lib.hid (on hb.out hb3)
            have hn3 : n3 ≤ 1000000 := by have := hs3.1.len; rw [List.length_map] at this; have := HN.out; omega
            have hc3 := hs3.2
            go_wp2_with fail
            refine (PutGl_any _ _ _ _ _ hs3.1 HI.out.2.2.1 hc3.1 hc3.2 hn3 true r er HPUT.out).mono ?_; rintro e w4 ⟨G4, n4, c4, rfl, hs4, hb4⟩
            have HB4 := Lib.hid (on HB3.out hb4)
            have HS4 := Lib.hid hs4
            clear hs3 hb3 hs4 hb4 hc3
            go_wp2_with fail
            go_ret2
            exact ⟨_, _, _, rfl, HS4.out, HB4.out⟩
end Go.Proofs.YtbmooemlekckbaaDoor

/- ints' laws: the head. -/
namespace Go.Proofs.YtbmooemlekckbaaDoor
open Go.RowKit

theorem empty_s : (⟨#[]⟩ : ByteArray).toList = [] := by rw [ByteArray.toList_eq]
theorem ok_num (k n : Int) : okI k (numV n) = (decide (k ≠ 1) || (decide (n = 0) || decide (n = 1))) := by
  unfold okI numV
  rw [empty_s]; rfl
theorem Rv_lit4 (w : World) (l : List Val) (t : TypeId) (cs : Array Value) (hcs : cs = (cellsV l).toArray) (n : Nat) (hn : l.length = n) : Rv (w.alloc (.cells cs t)) (some ⟨w.heap.size, 0, none⟩) n l := by
  subst hcs
  refine ⟨by rw [cellsV_len, hn], fun _ => ⟨w.heap.size, 0, rfl, by simp, fun j u hu => ?_⟩⟩
  rw [Nat.zero_add, (Blk.new w t _).cell]; simpa using hu
set_option maxRecDepth 100000 in
set_option maxHeartbeats 1000000 in
theorem shown14_any (w : World) :
    Calls Tryd.prog 4 #[] w fun e w' => e = .returned (.bool true) ∧ Below w.heap.size w w' := by
  have h1 : putIn 1 [numV 1, numV 0, numV 1] = ([255, 160], 0) := by
    unfold putIn
    rw [show isNum 1 = true from rfl, if_neg (by simp), if_neg (by decide), show [numV 1, numV 0, numV 1].all (okI 1) = true from by simp [ok_num], if_neg (by simp), if_pos rfl]
    decide +kernel
  have h2 : putIn 5 [numV 1001, numV 1001, numV 1001] = ([0, 2, 0, 1], 0) := by
    unfold putIn
    rw [show isNum 5 = true from rfl, if_neg (by simp), if_neg (by decide), show [numV 1001, numV 1001, numV 1001].all (okI 5) = true from by simp [ok_num], if_neg (by simp), if_neg (by decide), if_pos rfl]
    decide +kernel
  have h3 : putIn 6 [] = ([], 1) := by
    unfold putIn
    rw [show isNum 6 = false from rfl, if_pos rfl]
  have H1 := Lib.hid h1; have H2 := Lib.hid h2; have H3 := Lib.hid h3
  clear h1 h2 h3
  have hf : ∀ x : Int, x = 0 ∨ x = 1 ∨ x = 1001 → -9223372036854775808 ≤ (numV x).n ∧ (numV x).n < 9223372036854775808 := by
    intro x hx
    show -9223372036854775808 ≤ x ∧ x < 9223372036854775808
    omega
  have HF1 : Hid (∀ v ∈ [numV 1, numV 0, numV 1], -9223372036854775808 ≤ v.n ∧ v.n < 9223372036854775808) := by
    refine Lib.hid (fun v hv => ?_)
    simp only [List.mem_cons, List.not_mem_nil, or_false] at hv
    rcases hv with rfl | rfl | rfl <;> exact hf _ (by omega)
  have HF2 : Hid (∀ v ∈ [numV 1001, numV 1001, numV 1001], -9223372036854775808 ≤ v.n ∧ v.n < 9223372036854775808) := by
    refine Lib.hid (fun v hv => ?_)
    simp only [List.mem_cons, List.not_mem_nil, or_false] at hv
    rcases hv with rfl | rfl | rfl <;> exact hf _ (by omega)
  clear hf
  go_enter Tryd.func4, Tryd.ntmps4
  go_wp2_with fail
  refine (PutIn_any _ 1 _ 3 3 _ (Rv_lit4 _ [numV 1, numV 0, numV 1] _ _ rfl _ rfl) HF1.out (by omega) _ _ H1.out).mono ?_; rintro e w1 ⟨G1, n1, c1, rfl, hs1, hb1⟩
  have HB1 := Lib.hid (on ((Below.refl w.heap.size w).alloc (Nat.le_refl _) _) hb1)
  go_wp2_with fail
  refine (PutIn_any _ 5 _ 3 3 _ (Rv_lit4 _ [numV 1001, numV 1001, numV 1001] _ _ rfl _ rfl) HF2.out (by omega) _ _ H2.out).mono ?_; rintro e w2 ⟨G2, n2, c2, rfl, hs2, hb2⟩
  have hb12 := on ((Below.refl w1.heap.size w1).alloc (Nat.le_refl _) _) hb2
  have HB2 := Lib.hid (on HB1.out hb12)
  go_wp2_with fail
  refine (PutIn_any _ 6 _ 0 0 [] (Rv.nil _ _) (fun v hv => by cases hv) (by omega) _ _ H3.out).mono ?_; rintro e w3 ⟨G3, n3, c3, rfl, hs3, hb3⟩
  have HB3 := Lib.hid (on HB2.out hb3)
  have cv1 := conv_any (c := c1) ((hs1.1.below hb12).below hb3)
  have cv2 := conv_any (c := c2) (hs2.1.below hb3)
  have s1 : (strOf [255, 160]).toList = [255, 160] := strOf_toList _
  have s2 : (strOf [0, 2, 0, 1]).toList = [0, 2, 0, 1] := strOf_toList _
  clear hs1 hb1 hs2 hb2 hs3 hb3 hb12
  go_wp2_with fail
  go_ret
  exact ⟨rfl, HB3.out⟩

def FewOutV4 (w : World) (A : Option Addr) (n k : Nat) (l : List Val) (e : Ending) (w' : World) : Prop :=
  ∃ m c, e = .returned (.slice A m c) ∧ w' = w ∧ m ≤ c ∧ c ≤ 9223372036854775807 ∧ m ≤ k ∧ m ≤ n ∧ Rv w A m (l.take k)
end Go.Proofs.YtbmooemlekckbaaDoor

/- ints.may, ints.made and the reference's Whole. -/
namespace Go.Proofs.YtbmooemlekckbaaDoor
open Go.RowKit

theorem may_is {q r : Int} (b : Bool) (h : b = true ↔ (r ≤ 999 ∧ -9223372036854775808 ≤ 1000 * q + r ∧ 1000 * q + r ≤ 9223372036854775807)) : b = mayT q r := by
  rw [Bool.eq_iff_iff, h]
  unfold mayT
  simp
set_option maxRecDepth 100000 in
set_option maxHeartbeats 1000000 in
theorem may_any (w : World) (q r : Int) (hr : 0 ≤ r) :
    Calls Tryd.prog 26 #[.int .i64 q, .int .i64 r] w fun e w' => e = .returned (.bool (mayT q r)) ∧ w = w' := by
  have l1 : (-9223372036854775808 : Int) % 1000 = 192 := by decide
  have l2 : (9223372036854775807 : Int) % 1000 = 807 := by decide
  have L1 := Lib.hid l1; have L2 := Lib.hid l2
  clear l1 l2
  by_cases h1 : 1000 ≤ r
  · have HM := Lib.hid (may_is (q := q) (r := r) false (by constructor <;> intro h; cases h; omega))
    go_enter Tryd.func26, Tryd.ntmps26
    go_wp2_with fail
    go_ret
    exact ⟨ret_bool HM.out, rfl⟩
  · by_cases h2 : q < -9223372036854776
    · have HM := Lib.hid (may_is (q := q) (r := r) false (by constructor <;> intro h; cases h; omega))
      go_enter Tryd.func26, Tryd.ntmps26
      go_wp2_with fail
      go_ret
      exact ⟨ret_bool HM.out, rfl⟩
    · by_cases h3 : 9223372036854775 < q
      · have HM := Lib.hid (may_is (q := q) (r := r) false (by constructor <;> intro h; cases h; omega))
        go_enter Tryd.func26, Tryd.ntmps26
        go_wp2_with fail
        go_ret
        exact ⟨ret_bool HM.out, rfl⟩
      · by_cases h4 : q = -9223372036854776
        · subst h4
          by_cases h5 : 192 ≤ r
          · have HM := Lib.hid (may_is (q := -9223372036854776) (r := r) true (by constructor <;> intro h; omega; rfl))
            go_enter Tryd.func26, Tryd.ntmps26
            go_wp2_with fail
            refine (left_any _ _ (by omega)).mono ?_; rintro e w' ⟨rfl, rfl⟩
            rw [L1.out]
            go_wp2_with fail
            go_ret
            exact ⟨ret_bool (by first | exact HM.out | (rw [← HM.out]; exact decide_eq_true h5)), rfl⟩
          · have HM := Lib.hid (may_is (q := -9223372036854776) (r := r) false (by constructor <;> intro h; cases h; omega))
            go_enter Tryd.func26, Tryd.ntmps26
            go_wp2_with fail
            refine (left_any _ _ (by omega)).mono ?_; rintro e w' ⟨rfl, rfl⟩
            rw [L1.out]
            go_wp2_with fail
            go_ret
            exact ⟨ret_bool (by first | exact HM.out | (rw [← HM.out]; exact decide_eq_false (by omega))), rfl⟩
        · have t4 : (q == -9223372036854776) = false := by simp [h4]
          by_cases h6 : q = 9223372036854775
          · subst h6
            by_cases h5 : r ≤ 807
            · have HM := Lib.hid (may_is (q := 9223372036854775) (r := r) true (by constructor <;> intro h; omega; rfl))
              go_enter Tryd.func26, Tryd.ntmps26
              go_wp2_with fail
              refine (left_any _ _ (by omega)).mono ?_; rintro e w' ⟨rfl, rfl⟩
              rw [L2.out]
              go_wp2_with fail
              go_ret
              exact ⟨ret_bool (by first | exact HM.out | (rw [← HM.out]; exact decide_eq_true h5)), rfl⟩
            · have HM := Lib.hid (may_is (q := 9223372036854775) (r := r) false (by constructor <;> intro h; cases h; omega))
              go_enter Tryd.func26, Tryd.ntmps26
              go_wp2_with fail
              refine (left_any _ _ (by omega)).mono ?_; rintro e w' ⟨rfl, rfl⟩
              rw [L2.out]
              go_wp2_with fail
              go_ret
              exact ⟨ret_bool (by first | exact HM.out | (rw [← HM.out]; exact decide_eq_false (by omega))), rfl⟩
          · have t6 : (q == 9223372036854775) = false := by simp [h6]
            have HM := Lib.hid (may_is (q := q) (r := r) true (by constructor <;> intro h; omega; rfl))
            clear h4 h6
            go_enter Tryd.func26, Tryd.ntmps26
            go_wp2_with fail
            go_ret
            exact ⟨ret_bool HM.out, rfl⟩
theorem may_parts {q r : Int} (h : mayT q r = true) : r ≤ 999 ∧ -9223372036854775808 ≤ 1000 * q + r ∧ 1000 * q + r ≤ 9223372036854775807 := by
  unfold mayT at h
  simpa using h
set_option maxHeartbeats 400000 in
theorem made_any (w : World) (q r : Int) (hr : 0 ≤ r) (h : mayT q r = true) :
    Calls Tryd.prog 27 #[.int .i64 q, .int .i64 r] w fun e w' => e = .returned (.int .i64 (1000 * q + r)) ∧ w = w' := by
  obtain ⟨h1, h2, h3⟩ := may_parts h
  clear h
  by_cases hq : q < 0
  all_goals
    go_enter Tryd.func27, Tryd.ntmps27
    go_wp2_with fail
    go_ret
    exact ⟨ret_i (by omega), rfl⟩
end Go.Proofs.YtbmooemlekckbaaDoor

/- From the data that a row speaks of to what a walk is told. -/
namespace Go.Proofs.YtbmooemlekckbaaDoor
open Go.ChangeShapes Go.WideShapes Go.ChangeAt Go.RowKit
open Go.ChangeMaps (open_string shut_string)

theorem wf_i64 {n : Int} (h : (Lit.int .i64 n).wf = true) : -9223372036854775808 ≤ n ∧ n < 9223372036854775808 := by
  have := bounds_i64 h; omega
theorem wf_u64 {n : Int} (h : (Lit.int .u64 n).wf = true) : 0 ≤ n ∧ n < 18446744073709551616 := by
  have := bounds_u64 h; omega
theorem wf_u8 {n : Int} (h : (Lit.int .u8 n).wf = true) : 0 ≤ n ∧ n < 256 := by
  have := bounds_u8 h; omega

/-- What is read of a slice of numbers that came in. -/
def IsRow (k : IntKind) (w : World) (a : Option Addr) (len cap : Nat) : Prop :=
  ∃ l : List Int, Ri w k a len l ∧ (∀ n ∈ l, (Lit.int k n).wf = true) ∧ len ≤ cap ∧ cap ≤ maxLen

theorem open_row {H : Type} {enc : TypeId × Value → H} {P : Program} {t e : TypeId} {k : IntKind} (ht : P.underlying t = some (.slice e)) (he : P.underlying e = some (.int k)) (hc : P.cellsOf e = 1)
    {W : World} {a : Option Addr} {len cap : Nat} {d : DataW H} {p : List MemPlace} {b : Nat} {sp : Nat → Bool} {hd : Bool}
    (h : DataW.Trod enc P W b sp hd t (.slice a len cap) d p) : IsRow k W a len cap := by
  obtain ⟨fuel, hf⟩ := h
  rcases open_ints ht he hc hf with ⟨hcs, _⟩ | ⟨x, l, c, zs, hcs, _, hl, hm, hz, _, hcell, hwz⟩
  · simp [Value.cells] at hcs
    obtain ⟨rfl, rfl, rfl⟩ := hcs
    exact ⟨[], Ri.nil _ _ _, by simp, Nat.le_refl _, Nat.zero_le _⟩
  · simp [Value.cells] at hcs
    obtain ⟨rfl, rfl, rfl⟩ := hcs
    have hz' : len ≤ zs.length := by rw [hz]; split <;> omega
    have hll : (zs.take len).length = len := by rw [List.length_take]; omega
    refine ⟨zs.take len, ⟨by simpa using hll, fun h0 => ?_⟩, fun n hn => hwz n (List.mem_of_mem_take hn), hl, hm⟩
    obtain ⟨bl, off, spot⟩ := x
    have hc0 := hcell 0 (by omega)
    have hspot : spot = none := by simpa [Addr.add] using World.cell?_spot hc0
    subst hspot
    refine ⟨bl, off, rfl, ?_, fun j u hj => ?_⟩
    · rw [add_none] at hc0
      exact World.block_lt_of_cell? _ _ hc0
    · have hjl : j < len := by
        rcases Nat.lt_or_ge j len with h | h
        · exact h
        · rw [List.getElem?_eq_none (by rw [List.length_map, hll]; exact h)] at hj; cases hj
      have hcj := hcell j (by omega)
      rw [add_none] at hcj
      rw [hcj]
      simp [List.getElem?_take_of_lt hjl, List.getElem?_eq_getElem (show j < zs.length by omega)] at hj
      simp [List.getD, List.getElem?_eq_getElem (show j < zs.length by omega), hj]

theorem row_u8 {w : World} {a : Option Addr} {len cap : Nat} (h : IsRow .u8 w a len cap) : ∃ l : List Int, Ri w .u8 a len l ∧ U8 l ∧ len ≤ cap ∧ cap ≤ maxLen := by
  obtain ⟨l, h1, h2, h3, h4⟩ := h
  exact ⟨l, h1, fun x hx => wf_u8 (h2 x hx), h3, h4⟩
theorem row_u64 {w : World} {a : Option Addr} {len cap : Nat} (h : IsRow .u64 w a len cap) : ∃ l : List Int, Ri w .u64 a len l ∧ U64 l ∧ len ≤ cap ∧ cap ≤ maxLen := by
  obtain ⟨l, h1, h2, h3, h4⟩ := h
  exact ⟨l, h1, fun x hx => wf_u64 (h2 x hx), h3, h4⟩
theorem row_i64 {w : World} {a : Option Addr} {len cap : Nat} (h : IsRow .i64 w a len cap) : ∃ l : List Int, Ri w .i64 a len l ∧ I64 l ∧ len ≤ cap ∧ cap ≤ maxLen := by
  obtain ⟨l, h1, h2, h3, h4⟩ := h
  exact ⟨l, h1, fun x hx => wf_i64 (h2 x hx), h3, h4⟩
end Go.Proofs.YtbmooemlekckbaaDoor

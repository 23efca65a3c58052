/- The walk through IntsBack. -/
import Derived.Test.YtbmooemlekckbaaDoorJ45
import Derived.Test.YtbmooemlekckbaaDoorJ46
import Derived.Test.YtbmooemlekckbaaDoorJ31
import Derived.Test.YtbmooemlekckbaaDoorJ43
namespace Go.Proofs.YtbmooemlekckbaaDoor
open Go.RowKit

theorem and_one (a : Int) : 0 ≤ bits BinOp.and IntKind.i64 a 1 ∧ bits BinOp.and IntKind.i64 a 1 ≤ 1 := by
  have h : (BitVec.ofInt 64 a &&& BitVec.ofInt 64 (1 : Int)).toNat ≤ 1 := by
    rw [BitVec.toNat_and]
    refine Nat.le_trans Nat.and_le_right ?_
    decide
  show 0 ≤ IntKind.i64.wrap ((BitVec.ofInt 64 a &&& BitVec.ofInt 64 (1 : Int)).toNat : Int) ∧ IntKind.i64.wrap ((BitVec.ofInt 64 a &&& BitVec.ofInt 64 (1 : Int)).toNat : Int) ≤ 1
  rw [IntWalk.i64_in _ (by omega)]
  omega
/-- The number that the law lays down. -/
def numK (k n : Int) : Int := if k = 1 then bits .and .i64 n 1 else n
theorem numK_one {k : Int} (h : k = 1) (n : Int) : numK k n = bits .and .i64 n 1 := if_pos h
theorem numK_else {k : Int} (h : ¬ k = 1) (n : Int) : numK k n = n := if_neg h
theorem numK_i64 (k : Int) (l : List Int) (hu : I64 l) : I64 (l.map (numK k)) := fun y hy => by
  obtain ⟨n, hn, rfl⟩ := List.mem_map.1 hy
  have h1 := hu n hn
  have h2 := and_one n
  unfold numK
  split
  · omega
  · exact h1
theorem numK_bit (k : Int) (l : List Int) (h : k = 1) : ∀ y ∈ l.map (numK k), y = 0 ∨ y = 1 := fun y hy => by
  obtain ⟨n, hn, rfl⟩ := List.mem_map.1 hy
  have h2 := and_one n
  rw [numK_one h]
  omega
theorem numK_snoc (k : Int) (l : List Int) (j : Nat) (h : j < l.length) : ((l.take (j + 1)).map (numK k)).map numV = ((l.take j).map (numK k)).map numV ++ [numV (numK k (l.getD j 0))] := by
  rw [List.take_add_one, List.getElem?_eq_getElem h, Option.toList_some, List.map_append, List.map_append, List.getD, List.getElem?_eq_getElem h, Option.getD_some]; rfl

set_option maxRecDepth 100000 in
set_option maxHeartbeats 4000000 in
theorem IntsBack_walk (w : World) (A : Option Addr) (n cap : Nat) (l : List Int) (hr : Ri w .i64 A n l) (hu : I64 l) (hc : n ≤ cap) (_hm : cap ≤ maxLen) :
    Calls Tryd.prog 3 #[.slice A n cap] w fun e w' => e = .returned (.bool true) ∧ Below w.heap.size w w' := by
  have HR := Lib.hid hr; have HN := Lib.hid hr.len; have HU := Lib.hid hu; clear hr hu
  go_enter Tryd.func3, Tryd.ntmps3
  go_wp2_with fail
  refine (shown14_any _).mono ?_; rintro e w1 ⟨rfl, hb1⟩
  have HB1 := Lib.hid hb1; clear hb1
  go_wp2_with fail
  go_loopw [4] (fun v wr => ∃ k : Nat, 1 ≤ k ∧ k ≤ 6 ∧ v = .int .i64 k ∧ Hid (Below w.heap.size w wr)) (fun v _ => 6 - (intOf v).toNat)
  case atStart => exact ⟨1, by omega, by omega, rfl, HB1⟩
  case round =>
    obtain ⟨k, hk1, hk6, rfl, hbk⟩ := hrel
    obtain ⟨wk, hwk⟩ : ∃ wk, wk = wr := ⟨_, rfl⟩
    subst hwk
    by_cases hk5 : k ≤ 5
    · have t5 : decide ((k : Int) ≤ 5) = true := decide_eq_true (by omega)
      have HE := Lib.hid (own_empty wk 26 3)
      go_wp2_with fail
      go_loopw [5, 6] (fun v i wr => ∃ j : Nat, j ≤ n ∧ j ≤ 4096 ∧ i = .int .i64 j ∧ Hid (wr.ownsRow wk.heap.size 26 3 v j (cellsV (((l.take j).map (numK k)).map numV))) ∧ Hid (Below wk.heap.size wk wr)) (fun _ i _ => n - (intOf i).toNat)
      case atStart => exact ⟨0, by omega, by omega, rfl, HE, (Below.refl wk.heap.size wk).alloc (Nat.le_refl _) _⟩
      case round =>
        obtain ⟨j, hj1, hj2, rfl, ho, hb⟩ := hrel
        have hz := hb.out.size
        by_cases hlt : j < n ∧ j < 4096
        · obtain ⟨hlt1, hlt2⟩ := hlt
          obtain ⟨b, o, hA, hbl, hcell⟩ := HR.out.at_ hlt1
          subst hA
          have g1 := ((on hbk.out hb.out).cell (p := ⟨b, o + j, none⟩) hbl).trans hcell
          have hs := Lib.hid (numK_snoc k l j (by rw [HN.out]; exact hlt1))
          clear hcell
          generalize l.getD j 0 = x at *
          by_cases hk : k = 1
          · have t1 : ((k : Int) == 1) = true := by simp; omega
            have HV := Lib.hid (numK_one (show (k : Int) = 1 by omega) x)
            clear hk
            go_wp2_with (at_builtin; refine wpList_val _ rfl _ _ rfl wk.heap.size _ j _ rfl (own_below ho.out ((Below.refl _ _).alloc (Nat.le_refl _) _)) _ 1 1 [numV (bits .and .i64 x 1)] rfl (rv_one_at rfl) (by omega) (by simp; omega) ?_; intro G c w3 hown hgr hcc)
            have HOWN := Lib.hid hown; have HNB := Lib.hid (push_ hb.out (Nat.le_refl _) ho.out hgr)
            clear hown hgr
            go_wp2_with fail
            go_roundw
            case rel =>
              refine ⟨j + 1, by omega, by omega, by go_num, ?_, HNB⟩
              rw [hs.out, HV.out]
              exact HOWN
            case measure => simp [intOf] <;> omega
          · have t1 : ((k : Int) == 1) = false := by simp; omega
            have HV := Lib.hid (numK_else (show ¬ (k : Int) = 1 by omega) x)
            clear hk
            go_wp2_with (at_builtin; refine wpList_val _ rfl _ _ rfl wk.heap.size _ j _ rfl (own_below ho.out ((Below.refl _ _).alloc (Nat.le_refl _) _)) _ 1 1 [numV x] rfl (rv_one_at rfl) (by omega) (by simp; omega) ?_; intro G c w3 hown hgr hcc)
            have HOWN := Lib.hid hown; have HNB := Lib.hid (push_ hb.out (Nat.le_refl _) ho.out hgr)
            clear hown hgr
            go_wp2_with fail
            go_roundw
            case rel =>
              refine ⟨j + 1, by omega, by omega, by go_num, ?_, HNB⟩
              rw [hs.out, HV.out]
              exact HOWN
            case measure => simp [intOf] <;> omega
        · obtain ⟨L, hL⟩ : ∃ L, L = (l.take j).map (numK k) := ⟨_, rfl⟩
          have HI := Lib.hid (show I64 L by rw [hL]; exact numK_i64 k _ fun y hy => HU.out y (List.mem_of_mem_take hy))
          have hbit : (k : Int) = 1 → ∀ y ∈ L, y = 0 ∨ y = 1 := by rw [hL]; exact numK_bit k _
          have hLl : L.length = j := by rw [hL, List.length_map, List.length_take, HN.out]; omega
          rw [← hL] at ho
          clear hL
          obtain ⟨G, c, rfl⟩ := own_form ho.out
          have HO := Lib.hid (Rv.of_own ho.out)
          have HB := Lib.hid (on hbk.out hb.out)
          obtain ⟨p, hp, hp8, hpl, htk, hmore⟩ := ints_back k (decide_eq_true (by omega)) L HI.out (by omega) hbit
          rw [hLl] at htk hmore
          have HLl := Lib.hid hLl
          have HP := Lib.hid hp; have HP8 := Lib.hid hp8; have HT := Lib.hid htk; have HM := Lib.hid hmore; have HPL := Lib.hid hpl
          clear hp hp8 htk hmore hpl hbit ho hb hLl
          have hjj : j = n ∨ (j < n ∧ 4096 ≤ j) := by omega
          clear hlt
          rcases hjj with rfl | ⟨hjn, hj4⟩
          all_goals
            go_wp2_with fail
            refine (PutIn_any _ k _ _ _ (L.map numV) HO.out (fun v hv => by obtain ⟨y, hy, rfl⟩ := List.mem_map.1 hv; exact HI.out y hy) (by omega) p 0 HP.out).mono ?_; rintro e w4 ⟨G4, n4, c4, rfl, hs4, hb4⟩
            have r4 : n4 ≤ 100000 := by have := hs4.1.len; have := HPL.out; omega
            have HS4 := Lib.hid hs4; have HO4 := Lib.hid (HO.out.below hb4); have HB4 := Lib.hid (on HB.out hb4)
            obtain ⟨k1, k2⟩ := hs4.2
            clear hs4 hb4
            go_wp2_with fail
            refine (TakeIn_any _ k _ _ _ _ p HS4.out.1 HP8.out k1 k2 (by omega) (L.map numV) 0 HT.out).mono ?_; rintro e w5 ⟨G6, n6, c6, rfl, hs6, hb5⟩
            have q6 : n6 = j := by have := hs6.1.len; have := HLl.out; rw [List.length_map] at *; omega
            subst q6
            have HS6 := Lib.hid hs6; have HO5 := Lib.hid (HO4.out.below hb5); have HS5 := Lib.hid (HS4.out.below hb5); have HB5 := Lib.hid (on HB4.out hb5)
            clear hs6 hb5
            go_wp2_with fail
            refine (SameV_any _ _ _ _ _ _ (L.map numV) HS6.out.1 HO5.out (by omega)).mono ?_; rintro e w6 ⟨rfl, hb6⟩
            have HS7 := Lib.hid (HS5.out.below hb6); have HB6 := Lib.hid (on HB5.out hb6)
            clear hb6
            by_cases hk : k = 1
            · have t6 : ((k : Int) != 1) = false := by simp; omega
              clear hk
              by_cases hj5 : n6 < 4096
              · have t7 : decide ((n6 : Int) < 4096) = true := decide_eq_true (by omega)
                go_wp2_with fail
                go_roundw
                case rel => exact ⟨k + 1, by omega, by omega, by go_num, HB6⟩
                case measure => simp [intOf] <;> omega
              · have t7 : decide ((n6 : Int) < 4096) = false := decide_eq_false (by omega)
                go_wp2_with fail
                go_roundw
                case rel => exact ⟨k + 1, by omega, by omega, by go_num, HB6⟩
                case measure => simp [intOf] <;> omega
            · have t6 : ((k : Int) != 1) = true := by simp; omega
              have HK := Lib.hid hk
              clear hk
              by_cases hj5 : n6 < 4096
              · have t7 : decide ((n6 : Int) < 4096) = true := decide_eq_true (by omega)
                obtain ⟨l2, hl2⟩ : ∃ l2, takeIn k p ((n6 : Int) + 1) = (l2, 2) := ⟨_, Prod.ext rfl (HM.out (by have := HK.out; omega) (by have := HLl.out; omega))⟩
                have HL2 := Lib.hid hl2
                clear hl2
                go_wp2_with fail
                refine (TakeIn_any _ k _ _ _ _ p HS7.out.1 HP8.out k1 k2 (by omega) l2 2 HL2.out).mono ?_; rintro e w8 ⟨G8, n8, c8, rfl, hs8, hb8⟩
                have HB8 := Lib.hid (on HB6.out hb8)
                clear hs8 hb8
                go_wp2_with fail
                go_roundw
                case rel => exact ⟨k + 1, by omega, by omega, by go_num, HB8⟩
                case measure => simp [intOf] <;> omega
              · have t7 : decide ((n6 : Int) < 4096) = false := decide_eq_false (by omega)
                go_wp2_with fail
                go_roundw
                case rel => exact ⟨k + 1, by omega, by omega, by go_num, HB6⟩
                case measure => simp [intOf] <;> omega
    · go_wp2_with fail
      go_ret
      exact ⟨rfl, hbk.out⟩
end Go.Proofs.YtbmooemlekckbaaDoor

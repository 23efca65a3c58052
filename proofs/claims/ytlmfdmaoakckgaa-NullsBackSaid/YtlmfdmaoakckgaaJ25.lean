/- Joined texts: ByRT. Each has its own head line. No condition beyond those that its theorems state. -/
import Derived.Test.YtlmfdmaoakckgaaJ24
set_option linter.unusedVariables false

/- The reference of byterle.Take. -/
namespace Go.Proofs.Ytlmfdmaoakckgaa
open Go.RowKit

/-- The state while the reference takes bytes. -/
def RTakeW (w wr : World) (M n : Nat) (l : List Int) (res : List Int × List Int × Int) (v : Value) (k : Nat) : Prop :=
  ∃ o f, k ≤ n ∧ wr.ownsRow w.heap.size 5 1 v o.length (o.map (Value.int .u8)) ∧ Below w.heap.size w wr ∧ decF f M o (l.drop k) = res ∧ M < f + o.length ∧ o.length ≤ 5000
theorem drop_get (l : List Int) (k i : Nat) : (l.drop k).getD i 0 = l.getD (k + i) 0 := by simp [List.getD]

set_option maxRecDepth 100000 in
set_option maxHeartbeats 2000000 in
theorem refTake5_any (w : World) (A : Option Addr) (n cap : Nat) (l : List Int) (hr : Ri w .u8 A n l) (hu : U8 l) (hc : n ≤ cap) (hm : cap ≤ 9223372036854775807) (hn : n ≤ 1000000) (m : Int) (r1 r2 : List Int) (er : Int) (hp : decR l m = (r1, r2, er)) :
    Calls Try.prog 67 #[.slice A n cap, .int .i64 m] w (BytesTwo w r1 r2 er) := by
  have HR := Lib.hid hr; have HU := Lib.hid hu; have HL := Lib.hid hr.len
  clear hr hu
  unfold decR at hp
  by_cases hbad : m < 0 ∨ 4096 < m
  · rw [if_pos hbad] at hp
    injection hp with e1 e2; injection e2 with e2 e3
    subst e1 e2 e3
    rcases hbad with hbad | hbad
    all_goals
      go_enter Try.func67, Try.ntmps67
      go_wp2_with fail
      refine bodyPost_ret (results_tmp3 rfl _ _ _) rfl ?_
      exact BytesTwo.nil (Below.refl _ _)
  · rw [if_neg hbad] at hp
    obtain ⟨M, rfl⟩ := Int.eq_ofNat_of_zero_le (show 0 ≤ m by omega)
    have hM : M ≤ 4096 := by omega
    rw [Int.toNat_natCast] at hp
    have HP := Lib.hid hp
    clear hp hbad
    go_enter Try.func67, Try.ntmps67
    go_wp2_with fail
    go_loopw [7, 8] (fun v i wr => ∃ k : Nat, i = .int .i64 k ∧ k ≤ n ∧ Hid (RTakeW w wr M n l (r1, r2, er) v k)) (fun _ i _ => n - (intOf i).toNat)
    case atStart => exact ⟨0, rfl, by omega, [], M + 1, by omega, own_empty w _ 1, (Below.refl _ _).alloc (Nat.le_refl _) _, HP.out, by simp, by simp⟩
    case round =>
      obtain ⟨k, rfl, hkn, hrel⟩ := hrel
      obtain ⟨o, f, _, ho, hb, hd, hf, hol⟩ := hrel.out
      obtain ⟨G, gc, rfl⟩ := own_form ho
      have hgc := own_cap ho
      have HO := Lib.hid ho; have HB := Lib.hid hb; have HD := Lib.hid hd
      clear hrel ho hb hd
      rcases Nat.lt_or_ge o.length M with hlt | hge
      · obtain ⟨f, rfl⟩ : ∃ g, f = g + 1 := ⟨f - 1, by omega⟩
        have hd := HD.out
        simp only [decF] at hd
        rw [if_neg (by omega), List.length_drop, HL.out, drop_get, drop_get, Nat.add_zero] at hd
        rcases Nat.lt_or_ge (n - k) 2 with h2 | h2
        · rw [if_pos h2] at hd
          injection hd with e1 e2; injection e2 with e2 e3
          subst e1 e2 e3
          go_wp2_with fail
          refine bodyPost_ret (results_tmp3 rfl _ _ _) rfl ?_
          exact BytesTwo.nil HB.out
        · rw [if_neg (by omega)] at hd
          obtain ⟨b, of, hA, hbl, hcell⟩ := HR.out.all (by omega)
          subst hA
          have hx0 := getD_u8 HU.out k
          obtain ⟨x, hx⟩ : ∃ x : Nat, (x : Int) = l.getD k 0 := ⟨(l.getD k 0).toNat, by omega⟩
          have g0 := (HB.out.cell (p := ⟨b, of + k, none⟩) hbl).trans (hcell k (by omega))
          rw [← hx] at g0 hx0 hd
          rw [Int.toNat_natCast] at hd
          have HC := Lib.hid hcell
          clear hcell hx HD
          rcases Nat.lt_or_ge x 128 with h128 | h128
          · rw [if_pos (by omega), List.drop_drop] at hd
            have HD := Lib.hid hd; clear hd
            have hb1 : decide ((x : Int) < 128) = true := decide_eq_true (by omega)
            have hb2 : decide ((n : Int) - k < 2) = false := decide_eq_false (by omega)
            go_wp2_with fail
            go_loopw [7, 10] (fun v i wi => ∃ j : Nat, i = .int .i64 j ∧ j ≤ x + 3 ∧ Hid (wi.ownsRow w.heap.size 5 1 v (o.length + j) ((o ++ List.replicate j (l.getD (k + 1) 0)).map (Value.int .u8))) ∧ Hid (Below w.heap.size w wi)) (fun _ i _ => x + 3 - (intOf i).toNat)
            case atStart => exact ⟨0, rfl, by omega, by simpa using HO, HB⟩
            case round =>
              obtain ⟨j, rfl, hj, hoj, hbj⟩ := hrel
              rcases Nat.lt_or_ge j (x + 3) with hjl | hjl
              · have hy0 := getD_u8 HU.out (k + 1)
                have g1 := (hbj.out.cell (p := ⟨b, of + (k + 1), none⟩) hbl).trans (HC.out (k + 1) (by omega))
                generalize l.getD (k + 1) 0 = y at *
                go_wp2_with (at_builtin; refine wpList_u8 _ rfl _ _ rfl w.heap.size _ _ (o ++ List.replicate j y) rfl (hoj.out.alloc _) _ 1 1 [y] rfl (Rd.one _ _ _) (by omega) (by have := hbj.out.size; simp; omega) ?_; intro G3 c3 w3 hown hgr hcc)
                have HOWN := Lib.hid hown; have HGR := Lib.hid hgr
                clear hown hgr
                go_wp2_with fail
                go_roundw
                case rel =>
                  refine ⟨j + 1, by go_num, by omega, ?_, push_ hbj.out (Nat.le_refl _) hoj.out HGR.out⟩
                  have h := HOWN.out
                  rw [List.append_assoc, ← List.replicate_succ'] at h
                  exact h
                case measure => simp [intOf] <;> omega
              · obtain rfl : j = x + 3 := by omega
                go_wp2_with fail
                go_roundw
                case rel =>
                  refine ⟨k + 2, by go_num, by omega, _, f, by omega, ?_, hbj.out, HD.out, by simp only [List.length_append, List.length_replicate]; omega, by simp only [List.length_append, List.length_replicate]; omega⟩
                  rw [List.length_append, List.length_replicate]; exact hoj.out
                case measure => simp [intOf] <;> omega
          · rw [if_neg (by omega), show 257 - x = 256 - x + 1 from by omega, List.drop_drop, List.drop_drop] at hd
            rcases Nat.lt_or_ge (256 - x) (n - k) with h256 | h256
            · rw [if_neg (by omega)] at hd
              obtain ⟨q, hq⟩ : ∃ q, q = k + 257 - x := ⟨_, rfl⟩
              have hq1 : 256 - x = q - (k + 1) := by omega
              have hq2 : k + 1 < q ∧ q ≤ n := by omega
              have e1 : (k : Int) + 257 - x = (q : Int) := by omega
              rw [show k + (256 - x + 1) = q from by omega, hq1] at hd
              have HD := Lib.hid hd; clear hd
              have HY := Lib.hid ((HR.out.mid (i := k + 1) (m := q - (k + 1)) (by omega)).below HB.out)
              have HL2 := Lib.hid (show ((l.drop (k + 1)).take (q - (k + 1))).length = q - (k + 1) by rw [List.length_take, List.length_drop, HL.out]; omega)
              have hne : ¬ cap = k + 1 := by omega
              clear hq hq1
              obtain ⟨hq1, hq2⟩ := hq2
              have hol2 : o.length + (q - (k + 1)) ≤ 5000 ∧ 0 < q - (k + 1) := by omega
              obtain ⟨hol2, hol3⟩ := hol2
              go_wp2_with (at_builtin; refine wpList_u8 _ rfl (.tmp 58) (.tmp 66) rfl w.heap.size _ o.length o rfl HO.out _ (q - (k + 1)) _ ((l.drop (k + 1)).take (q - (k + 1))) rfl HY.out (by omega) HB.out.size ?_; intro G3 c3 w3 hown hgr hcc)
              have HOWN := Lib.hid hown; have HGR := Lib.hid hgr
              clear hown hgr
              go_wp2_with fail
              go_roundw
              case rel =>
                refine ⟨q, rfl, by omega, _, f, by omega, ?_, push0 HB.out (Nat.le_refl _) HO.out HGR.out, HD.out, by rw [List.length_append, HL2.out]; omega, by rw [List.length_append, HL2.out]; omega⟩
                rw [List.length_append, HL2.out]; exact HOWN.out
              case measure => simp [intOf] <;> omega
            · rw [if_pos (by omega)] at hd
              injection hd with e1 e2; injection e2 with e2 e3
              subst e1 e2 e3
              go_wp2_with fail
              refine bodyPost_ret (results_tmp3 rfl _ _ _) rfl ?_
              exact BytesTwo.nil HB.out
      · rcases Nat.lt_or_ge M o.length with hgt | hle
        · have hd := HD.out
          rw [decF_over f M o _ hgt] at hd
          injection hd with e1 e2; injection e2 with e2 e3
          subst e1 e2 e3
          go_wp2_with fail
          refine bodyPost_ret (results_tmp3 rfl _ _ _) rfl ?_
          exact BytesTwo.nil HB.out
        · have hd := HD.out
          rw [decF_done f M o _ (by omega) hf] at hd
          injection hd with e1 e2; injection e2 with e2 e3
          subst e1 e2 e3
          have HSL := Lib.hid (Sl.of_own HO.out)
          have hcase : (n = 0 ∧ k = 0) ∨ (∃ b of, A = some ⟨b, of, none⟩ ∧ ((cap = k ∧ n = k) ∨ ¬ cap = k)) := by
            rcases Nat.eq_zero_or_pos n with h0 | h0
            · exact .inl ⟨h0, by omega⟩
            · obtain ⟨b, of, e, _⟩ := HR.out.all h0
              exact .inr ⟨b, of, e, by omega⟩
          rcases hcase with ⟨rfl, rfl⟩ | ⟨b, of, rfl, ⟨rfl, hnk⟩ | hck⟩
          · obtain rfl : l = [] := List.eq_nil_of_length_eq_zero HL.out
            go_wp2_with (at_builtin; refine wpList_u8 _ rfl (.tmp 77) (.tmp 80) rfl wr.heap.size _ 0 [] rfl (own_empty wr _ 1) _ 0 _ [] rfl (Ri.nil _ _ _) (by omega) (by simp) ?_; intro G3 c3 w3 hown hgr hcc; rw [Nat.zero_add, List.nil_append] at hown; have HOWN := Lib.hid hown; have HGR := Lib.hid hgr; clear hown hgr)
            all_goals
              refine bodyPost_ret (results_tmp3 rfl _ _ _) rfl ?_
              have hb3 := push0 ((Below.refl wr.heap.size wr).alloc (Nat.le_refl _) _) (Nat.le_refl _) (own_empty wr _ 1) HGR.out
              exact ⟨_, _, _, _, _, _, rfl, HSL.out.below hb3, Sl.of_own HOWN.out, on HB.out hb3⟩
          · obtain rfl : n = cap := hnk
            have hd0 : l.drop n = [] := List.drop_of_length_le (by rw [HL.out]; exact Nat.le_refl _)
            go_wp2_with (at_builtin; refine wpList_u8 _ rfl (.tmp 77) (.tmp 80) rfl wr.heap.size _ 0 [] rfl (own_empty wr _ 1) _ 0 _ [] rfl (Ri.nil _ _ _) (by omega) (by simp) ?_; intro G3 c3 w3 hown hgr hcc; rw [Nat.zero_add, List.nil_append] at hown; have HOWN := Lib.hid hown; have HGR := Lib.hid hgr; clear hown hgr)
            all_goals
              refine bodyPost_ret (results_tmp3 rfl _ _ _) rfl ?_
              have hb3 := push0 ((Below.refl wr.heap.size wr).alloc (Nat.le_refl _) _) (Nat.le_refl _) (own_empty wr _ 1) HGR.out
              rw [hd0]
              exact ⟨_, _, _, _, _, _, rfl, HSL.out.below hb3, Sl.of_own HOWN.out, on HB.out hb3⟩
          · have HQ := Lib.hid ((HR.out.rest (i := k) hkn (fun _ => rfl)).below HB.out)
            go_wp2_with (at_builtin; refine wpList_u8 _ rfl (.tmp 77) (.tmp 80) rfl wr.heap.size _ 0 [] rfl (own_empty wr _ 1) _ (n - k) _ (l.drop k) rfl (HQ.out.alloc _) (by omega) (by simp) ?_; intro G3 c3 w3 hown hgr hcc; rw [Nat.zero_add, List.nil_append] at hown; have HOWN := Lib.hid hown; have HGR := Lib.hid hgr; clear hown hgr)
            refine bodyPost_ret (results_tmp3 rfl _ _ _) rfl ?_
            have hb3 := push0 ((Below.refl wr.heap.size wr).alloc (Nat.le_refl _) _) (Nat.le_refl _) (own_empty wr _ 1) HGR.out
            exact ⟨_, _, _, _, _, _, rfl, HSL.out.below hb3, Sl.of_own HOWN.out, on HB.out hb3⟩
end Go.Proofs.Ytlmfdmaoakckgaa

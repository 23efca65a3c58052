/- Joined texts: TakeRB. Each has its own head line. No condition beyond those that its theorems state. -/
import Derived.Test.YtlmfdmaoakckgaaJ33
set_option linter.unusedVariables false

/- The reference of boolrle.Take. -/
namespace Go.Proofs.Ytlmfdmaoakckgaa
open Go.RowKit

theorem countB_pos {l : List Bool} (h : ∃ x ∈ l, x = true) : 0 < countB l := by
  obtain ⟨x, hx, rfl⟩ := h
  unfold countB
  exact List.length_pos_of_mem (List.mem_filter.2 ⟨hx, rfl⟩)
theorem countB_zero {l : List Bool} (h : ∀ x ∈ l, x = false) : countB l = 0 := by
  unfold countB
  rw [List.length_eq_zero_iff, List.filter_eq_nil_iff]
  intro x hx
  rw [h x hx]; simp
theorem mem_drop_bits (x : List Int) (n m : Nat) (b : Bool) : b ∈ (bitsB x n).drop m ↔ ∃ i, m ≤ i ∧ i < n ∧ bitAt x i = b := by
  unfold bitsB
  rw [← List.map_drop]
  constructor
  · intro h
    obtain ⟨i, hi, rfl⟩ := List.mem_map.1 h
    rw [List.mem_iff_getElem] at hi
    obtain ⟨k, hk, rfl⟩ := hi
    rw [List.length_drop, List.length_range] at hk
    rw [List.getElem_drop, List.getElem_range]
    exact ⟨m + k, by omega, by omega, rfl⟩
  · rintro ⟨i, h1, h2, rfl⟩
    refine List.mem_map.2 ⟨i, ?_, rfl⟩
    rw [List.mem_iff_getElem]
    exact ⟨i - m, by rw [List.length_drop, List.length_range]; omega, by rw [List.getElem_drop, List.getElem_range]; omega⟩

set_option maxRecDepth 100000 in
set_option maxHeartbeats 2000000 in
theorem refBTake_any (w : World) (A : Option Addr) (n cap : Nat) (b : List Int) (hr : Ri w .u8 A n b) (hu : U8 b) (hc : n ≤ cap) (hm : cap ≤ 9223372036854775807) (hn : n ≤ 1000000) (many : Int) (l : List Bool) (r : List Int) (er : Int) (hl : takeB b many = (l, r, er)) :
    Calls Try.prog 51 #[.slice A n cap, .int .i64 many] w (TakeOutB w l r er) := by
  have HR := Lib.hid hr; have HU := Lib.hid hu
  clear hr hu
  unfold takeB at hl
  by_cases hbad : many < 0 ∨ 4096 < many
  · rw [if_pos hbad] at hl
    injection hl with e1 hl; injection hl with e2 e3
    subst e1 e2 e3
    rcases hbad with hbad | hbad
    all_goals
      go_enter Try.func51, Try.ntmps51
      go_wp2_with fail
      go_returns
      exact ⟨none, 0, 0, none, 0, 0, rfl, Sb.nil _, Sl.nil _ _, Below.refl _ _⟩
  · rw [if_neg hbad] at hl
    obtain ⟨m, rfl⟩ := Int.eq_ofNat_of_zero_le (show 0 ≤ many by omega)
    rw [Int.toNat_natCast] at hl
    have hlen := decR_len b ((m + 7) / 8)
    have hu8 := decR_u8 b ((m + 7) / 8) HU.out
    obtain ⟨x, t, e, hd⟩ : ∃ x t e, decR b (((m : Int) + 7) / 8) = (x, t, e) := ⟨_, _, _, rfl⟩
    rw [hd] at hl hlen hu8
    dsimp only at hl hlen hu8
    have HD := Lib.hid hd; have HX := Lib.hid hu8.1
    clear hd hu8
    by_cases he : e ≠ 0
    · rw [if_pos he] at hl
      injection hl with e1 hl; injection hl with e2 e3
      subst e1 e2 e3
      have he' : ¬ e = 0 := he
      clear he hlen
      go_enter Try.func51, Try.ntmps51
      go_wp2_with fail
      refine (refTake5_any _ _ _ _ b HR.out HU.out hc hm hn _ x t e HD.out).mono ?_; rintro e' w1 ⟨G1, n1, c1, G2, n2, c2, rfl, hs1, hs2, hb1⟩
      go_wp2_with fail
      go_returns
      exact ⟨none, 0, 0, none, 0, 0, rfl, Sb.nil _, Sl.nil _ _, hb1⟩
    · obtain rfl : e = 0 := by omega
      rw [if_neg he] at hl
      have HL := Lib.hid hl
      obtain ⟨_, _, hxl⟩ := hlen rfl
      clear hl he hlen
      go_enter Try.func51, Try.ntmps51
      go_wp2_with fail
      refine (refTake5_any _ _ _ _ b HR.out HU.out hc hm hn _ x t 0 HD.out).mono ?_; rintro e' w1 ⟨G1, n1, c1, G2, n2, c2, rfl, hs1, hs2, hb1⟩
      have hn1 := hs1.1.len
      have H1 := Lib.hid hs1.1; have H2 := Lib.hid hs2; have HB1 := Lib.hid hb1
      clear hs1 hs2 hb1
      go_wp2_with fail
      have hL8 : x.length ≤ 1000 := by omega
      have hLm : m ≤ 8 * x.length ∧ 8 * x.length < m + 8 := by omega
      subst hn1
      clear hxl
      have H0 := Lib.hid (own_empty w1 4 1)
      go_loopw [10, 11] (fun v i wr => ∃ j : Nat, j ≤ 8 * x.length ∧ i = .int .i64 j ∧ Hid (∀ q, m ≤ q → q < j → bitAt x q = false) ∧ Hid (wr.ownsRow w1.heap.size 4 1 v (min j m) ((bitsB x (min j m)).map Value.bool)) ∧ Hid (Below w1.heap.size w1 wr)) (fun _ i _ => 8 * x.length - (intOf i).toNat)
      case atStart => exact ⟨0, by omega, rfl, Lib.hid (fun q _ h => absurd h (by omega)), by rw [Nat.zero_min]; exact H0, (Below.refl w1.heap.size w1).alloc (Nat.le_refl _) _⟩
      case round =>
        obtain ⟨j, hj, rfl, hz, ho, hb⟩ := hrel
        by_cases hlt : j < 8 * x.length
        · obtain ⟨bb, oo, hA, hbl, hcell⟩ := H1.out.at_ (j := j / 8) (by omega)
          subst hA
          have hc3 := (hb.out.cell (p := ⟨bb, oo + j / 8, none⟩) hbl).trans hcell
          have hy := getD_u8 HX.out (j / 8)
          obtain ⟨y, hyy⟩ : ∃ y : Nat, (y : Int) = x.getD (j / 8) 0 := ⟨(x.getD (j / 8) 0).toNat, by omega⟩
          have htest := bit_test_ref y (by omega) (j % 8) (by omega)
          have hbit : decide (y / 2 ^ (7 - j % 8) % 2 = 1) = bitAt x j := by unfold bitAt; rw [← hyy, Int.toNat_natCast]
          rw [hbit] at htest
          rw [← hyy] at hc3
          have hsn := Lib.hid (bitsB_succ x j)
          have hjr : (0 : Int) ≤ 7 - (j : Int) % 8 := by omega
          have hz8 := hb.out.size
          clear hcell hbit hyy hy
          have HT := Lib.hid htest
          clear htest
          by_cases hjm : j < m
          · rw [Nat.min_eq_left (by omega)] at ho
            go_wp2_with (at_builtin; refine wpList_bool _ rfl _ _ rfl w1.heap.size _ j _ rfl (ho.out.alloc _) _ 1 1 [_] rfl (Rd.one _ _ _) (by omega) (by simp; omega) ?_; intro G c w2 hown hgr hcc)
            have HOWN := Lib.hid hown; clear hown
            go_wp2_with fail
            go_roundw
            case rel =>
              refine ⟨j + 1, by omega, by go_num, Lib.hid (fun q h1 h2 => absurd h1 (by omega)), ?_, push_ hb.out (Nat.le_refl _) ho.out hgr⟩
              have h := HOWN.out
              rw [HT.out] at h
              rw [Nat.min_eq_left (by omega), hsn.out]
              exact h
            case measure => simp [intOf] <;> omega
          · have hval := HT.out
            cases hq : bitAt x j
            · rw [hq] at hval
              rw [Nat.min_eq_right (by omega)] at ho
              have HQ := Lib.hid hq
              clear hq
              go_wp2_with fail
              go_roundw
              case rel =>
                refine ⟨j + 1, by omega, by go_num, Lib.hid (fun q h1 h2 => ?_), ?_, hb⟩
                · rcases Nat.lt_or_ge q j with h3 | h3
                  · exact hz.out q h1 h3
                  · rw [show q = j from by omega]; exact HQ.out
                · rw [Nat.min_eq_right (by omega)]; exact ho
              case measure => simp [intOf] <;> omega
            · rw [hq] at hval
              have h := HL.out
              rw [if_pos (countB_pos ⟨true, (mem_drop_bits x _ m true).2 ⟨j, by omega, hlt, hq⟩, rfl⟩)] at h
              injection h with e1 h; injection h with e2 e3
              subst e1 e2 e3
              clear hq
              go_wp2_with fail
              go_returns
              exact ⟨none, 0, 0, none, 0, 0, rfl, Sb.nil _, Sl.nil _ _, on HB1.out hb.out⟩
        · have h := HL.out
          have hz0 : countB ((bitsB x (8 * x.length)).drop m) = 0 := countB_zero fun q hq => by
            obtain ⟨i, h1, h2, rfl⟩ := (mem_drop_bits x _ m q).1 hq
            exact hz.out i h1 (by omega)
          rw [if_neg (by omega)] at h
          injection h with e1 h; injection h with e2 e3
          subst e1 e2 e3
          rw [Nat.min_eq_right (by omega)] at ho
          obtain ⟨G, c, rfl⟩ := own_form ho.out
          have HS := Lib.hid (Sb.of_own ho.out)
          have H3 := Lib.hid (H2.out.below hb.out)
          clear hz0 hz
          go_wp2_with fail
          go_returns
          exact ⟨_, _, _, _, _, _, rfl, HS.out, H3.out, on HB1.out hb.out⟩
end Go.Proofs.Ytlmfdmaoakckgaa

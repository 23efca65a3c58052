/- Joined texts: TakeB, TakeRB, PlainBB, TakeB2, EncLen. Each has its own head line. No condition beyond those that its theorems state. -/
import Derived.Test.YtbmooemlekckbaaDoorJ31
import Derived.Test.YtbmooemlekckbaaDoorJ15
set_option linter.unusedVariables false

/- boolrle.Take and its reference. -/
namespace Go.Proofs.YtbmooemlekckbaaDoor
open Go.RowKit

/-- The i-th bit of bytes. -/
def bitAt (x : List Int) (i : Nat) : Bool := decide ((x.getD (i / 8) 0).toNat / 2 ^ (7 - i % 8) % 2 = 1)
def bitsB (x : List Int) (n : Nat) : List Bool := (List.range n).map (bitAt x)
theorem bitsB_len (x : List Int) (n : Nat) : (bitsB x n).length = n := by simp [bitsB]
theorem bitsB_succ (x : List Int) (n : Nat) : bitsB x (n + 1) = bitsB x n ++ [bitAt x n] := by simp [bitsB, List.range_succ]
theorem bitsB_take (x : List Int) (n m : Nat) (h : m ≤ n) : (bitsB x n).take m = bitsB x m := by
  unfold bitsB
  rw [← List.map_take, List.take_range, Nat.min_eq_left h]
def takeB (b : List Int) (many : Int) : List Bool × List Int × Int :=
  if many < 0 ∨ 4096 < many then ([], [], 1)
  else if (decR b ((many + 7) / 8)).2.2 ≠ 0 then ([], [], 2)
  else if countB ((bitsB (decR b ((many + 7) / 8)).1 (8 * (decR b ((many + 7) / 8)).1.length)).drop many.toNat) > 0 then ([], [], 2)
  else (bitsB (decR b ((many + 7) / 8)).1 many.toNat, (decR b ((many + 7) / 8)).2.1, 0)
theorem decF_len (f : Nat) : ∀ (many : Nat) (out b : List Int), (decF f many out b).2.2 = 0 → (decF f many out b).1.length = many := by
  induction f with
  | zero => intro many out b h; simp [decF] at h
  | succ f ih =>
    intro many out b h
    simp only [decF] at h ⊢
    split
    · split
      · rename_i h1 h2; simp [h1, h2] at h
      · dsimp only; omega
    · rename_i h1
      rw [if_neg h1] at h
      split
      · rename_i h2; rw [if_pos h2] at h; simp at h
      · rename_i h2
        rw [if_neg h2] at h
        split
        · rename_i h3; rw [if_pos h3] at h; exact ih _ _ _ h
        · rename_i h3
          rw [if_neg h3] at h
          split
          · rename_i h4; rw [if_pos h4] at h; simp at h
          · rename_i h4; rw [if_neg h4] at h; exact ih _ _ _ h
theorem decR_len (b : List Int) (m : Int) (h : (decR b m).2.2 = 0) : 0 ≤ m ∧ m ≤ 4096 ∧ ((decR b m).1.length : Int) = m := by
  unfold decR at h ⊢
  split
  · rename_i h1; rw [if_pos h1] at h; simp at h
  · rename_i h1
    rw [if_neg h1] at h
    have := decF_len _ _ _ _ h
    omega
theorem decF_u8 (f : Nat) : ∀ (many : Nat) (out b : List Int), U8 out → U8 b → U8 (decF f many out b).1 ∧ U8 (decF f many out b).2.1 := by
  induction f with
  | zero => intro many out b _ _; exact ⟨fun x hx => by simp [decF] at hx, fun x hx => by simp [decF] at hx⟩
  | succ f ih =>
    intro many out b ho hb
    simp only [decF]
    split
    · split
      · exact ⟨fun x hx => by (cases hx), fun x hx => by (cases hx)⟩
      · exact ⟨ho, hb⟩
    · split
      · exact ⟨fun x hx => by (cases hx), fun x hx => by (cases hx)⟩
      · split
        · refine ih _ _ _ (fun x hx => ?_) (fun x hx => hb x (List.mem_of_mem_drop hx))
          rcases List.mem_append.1 hx with h | h
          · exact ho x h
          · rw [List.eq_of_mem_replicate h]; exact getD_u8 hb 1
        · split
          · exact ⟨fun x hx => by (cases hx), fun x hx => by (cases hx)⟩
          · refine ih _ _ _ (fun x hx => ?_) (fun x hx => hb x (List.mem_of_mem_drop hx))
            rcases List.mem_append.1 hx with h | h
            · exact ho x h
            · exact hb x (List.mem_of_mem_drop (List.mem_of_mem_take h))
theorem decR_u8 (b : List Int) (m : Int) (hb : U8 b) : U8 (decR b m).1 ∧ U8 (decR b m).2.1 := by
  unfold decR
  split
  · exact ⟨fun x hx => by (cases hx), fun x hx => by (cases hx)⟩
  · exact decF_u8 _ _ _ _ (fun x hx => by cases hx) hb
theorem bit_test : ∀ c : Nat, c < 256 → ∀ m : Nat, m < 8 → (bits .and .u8 (c : Int) (128 / 2 ^ m) != 0) = decide (c / 2 ^ (7 - m) % 2 = 1) := by decide +kernel
theorem bit_test_ref : ∀ c : Nat, c < 256 → ∀ m : Nat, m < 8 → (bits .and .u8 ((c : Int) / 2 ^ (7 - m)) 1 == 1) = decide (c / 2 ^ (7 - m) % 2 = 1) := by decide +kernel
/-- Truths, bytes and an error's number are handed back. -/
def TakeOutB (w : World) (l1 : List Bool) (l2 : List Int) (er : Int) (e : Ending) (w' : World) : Prop :=
  ∃ G n c G2 n2 c2, e = .returned (.tuple #[.slice G n c, .slice G2 n2 c2, .int .i64 er]) ∧ Sb w' G n c l1 ∧ Sl w' .u8 G2 n2 c2 l2 ∧ Below w.heap.size w w'
end Go.Proofs.YtbmooemlekckbaaDoor

/- The reference of boolrle.Take. -/
namespace Go.Proofs.YtbmooemlekckbaaDoor
open Go.RowKit

theorem countB_pos {l : List Bool} (h : ∃ x ∈ l, x = true) : 0 < countB l := by
  obtain ⟨x, hx, rfl⟩ := h
  unfold countB
  exact List.length_pos_of_mem (List.mem_filter.2 ⟨hx, rfl⟩)
theorem countB_zero {l : List Bool} (h : ∀ x ∈ l, x = false) : countB l = 0 := by
  unfold countB
  rw [List.length_eq_zero_iff, List.filter_eq_nil_iff]
  intro x hx
  rw [h x hx]; simp
theorem mem_drop_bits (x : List Int) (n m : Nat) (b : Bool) : b ∈ (bitsB x n).drop m ↔ ∃ i, m ≤ i ∧ i < n ∧ bitAt x i = b := by
  unfold bitsB
  rw [← List.map_drop]
  constructor
  · intro h
    obtain ⟨i, hi, rfl⟩ := List.mem_map.1 h
    rw [List.mem_iff_getElem] at hi
    obtain ⟨k, hk, rfl⟩ := hi
    rw [List.length_drop, List.length_range] at hk
    rw [List.getElem_drop, List.getElem_range]
    exact ⟨m + k, by omega, by omega, rfl⟩
  · rintro ⟨i, h1, h2, rfl⟩
    refine List.mem_map.2 ⟨i, ?_, rfl⟩
    rw [List.mem_iff_getElem]
    exact ⟨i - m, by rw [List.length_drop, List.length_range]; omega, by rw [List.getElem_drop, List.getElem_range]; omega⟩

end Go.Proofs.YtbmooemlekckbaaDoor

/- Plain law: truths that were laid down are taken as they were. -/
namespace Go.Proofs.YtbmooemlekckbaaDoor
open Go.RowKit

theorem bitAt_bytesOf (X N i : Nat) (hi : i < 8 * N) : bitAt (bytesOf X N) i = decide (X / 2 ^ (8 * N - 1 - i) % 2 = 1) := by
  unfold bitAt
  have hj : i / 8 < N := by omega
  rw [show (bytesOf X N).getD (i / 8) 0 = (byteAt X N (i / 8) : Int) from by simp [List.getD, bytesOf_get X N _ hj], Int.toNat_natCast]
  unfold byteAt
  rw [pow8, show (256 : Nat) = 2 ^ (7 - i % 8) * 2 ^ (8 - (7 - i % 8)) from by rw [← Nat.pow_add, show 7 - i % 8 + (8 - (7 - i % 8)) = 8 from by omega],
    Nat.mod_mul_right_div_self, Nat.div_div_eq_div_mul, ← Nat.pow_add, show 8 * (N - 1 - i / 8) + (7 - i % 8) = 8 * N - 1 - i from by omega,
    Nat.mod_mod_of_dvd _ (show 2 ∣ 2 ^ (8 - (7 - i % 8)) from ⟨2 ^ (i % 8), by rw [← Nat.pow_succ', show (i % 8).succ = 8 - (7 - i % 8) from by omega]⟩)]
theorem bit01_room (l : List Bool) : ∀ y ∈ bit01 l, y.toNat < 2 ^ 1 := by
  intro y hy
  obtain ⟨b, _, rfl⟩ := List.mem_map.1 hy
  cases b <;> decide
theorem bytesB_bit (l : List Bool) (i : Nat) (hi : i < 8 * ((l.length + 7) / 8)) : bitAt (bytesB l) i = l.getD i false := by
  unfold bytesB
  rw [bitAt_bytesOf _ _ _ hi]
  generalize hN : (l.length + 7) / 8 = N at *
  rcases Nat.lt_or_ge i l.length with h | h
  · rw [show 8 * N - 1 - i = 8 * N - l.length + (l.length - 1 - i) from by omega, Nat.pow_add, ← Nat.div_div_eq_div_mul, Nat.mul_div_cancel _ (Nat.two_pow_pos _)]
    have h1 := packV_get (bit01 l) 1 (bit01_room l) i (by rw [bit01_len]; exact h)
    rw [bit01_len, Nat.mul_one, Nat.pow_one] at h1
    rw [h1]
    simp only [bit01, List.getD, List.getElem?_map, List.getElem?_eq_getElem h, Option.map_some, Option.getD_some]
    cases l[i] <;> rfl
  · rw [show 8 * N - l.length = i + 1 - l.length + (8 * N - 1 - i) from by omega, Nat.pow_add, ← Nat.mul_assoc, Nat.mul_div_cancel _ (Nat.two_pow_pos _),
      show i + 1 - l.length = (i - l.length) + 1 from by omega, Nat.pow_succ, ← Nat.mul_assoc, Nat.mul_mod_left]
    simp [List.getD, List.getElem?_eq_none h]
theorem bytesB_len (l : List Bool) : (bytesB l).length = (l.length + 7) / 8 := by unfold bytesB; rw [bytesOf_len]
theorem bytesB_u8 (l : List Bool) : U8 (bytesB l) := by unfold bytesB; exact bytesOf_u8 _ _
theorem bitsB_bytesB (l : List Bool) : bitsB (bytesB l) l.length = l := by
  apply List.ext_getElem?
  intro i
  rcases Nat.lt_or_ge i l.length with h | h
  · simp only [bitsB, List.getElem?_map, List.getElem?_range h, Option.map_some]
    rw [bytesB_bit l i (by omega)]
    simp [List.getD, List.getElem?_eq_getElem h]
  · rw [List.getElem?_eq_none (by rw [bitsB_len]; exact h), List.getElem?_eq_none h]
theorem take_back (l : List Bool) (q : List Int) (h : l.length ≤ 4096) : takeB (enc 0 [] (bytesB l) ++ q) l.length = (l, q, 0) := by
  have hN : (bytesB l).length ≤ 4096 := by rw [bytesB_len]; omega
  have hd := dec_back (bytesB l) q hN
  rw [bytesB_len] at hd
  unfold takeB
  rw [if_neg (by omega), show ((l.length : Int) + 7) / 8 = (((l.length + 7) / 8 : Nat) : Int) from by omega, hd]
  rw [if_neg (by simp), Int.toNat_natCast]
  dsimp only
  rw [if_neg, bitsB_bytesB]
  rw [countB_zero]
  · omega
  · intro b hb
    obtain ⟨i, h1, h2, rfl⟩ := (mem_drop_bits _ _ _ _).1 hb
    rw [bytesB_len] at h2
    rw [bytesB_bit l i h2]
    simp [List.getD, List.getElem?_eq_none h1]
theorem put_takes (l : List Bool) (h : l.length ≤ 4096) : putB l = (enc 0 [] (bytesB l), 0) := by
  unfold putB encR
  rw [if_neg (by omega), if_neg (by rw [bytesB_len]; omega)]
end Go.Proofs.YtbmooemlekckbaaDoor

/- boolrle.Take. -/
namespace Go.Proofs.YtbmooemlekckbaaDoor
open Go.RowKit

theorem decF_len0 (b : List Int) (m : Int) (h : (decR b m).2.2 = 0) : ((decR b m).1.length : Int) = m := (decR_len b m h).2.2
theorem bitAt_eq (x : List Int) (j t : Nat) (ht : t < 8) : bitAt x (8 * j + t) = decide ((x.getD j 0).toNat / 2 ^ (7 - t) % 2 = 1) := by
  unfold bitAt
  rw [show (8 * j + t) / 8 = j from by omega, show (8 * j + t) % 8 = t from by omega]

set_option maxRecDepth 100000 in
set_option maxHeartbeats 2000000 in
theorem BTake_any (w : World) (A : Option Addr) (n cap : Nat) (b : List Int) (hr : Ri w .u8 A n b) (hu : U8 b) (hc : n ≤ cap) (hm : cap ≤ 9223372036854775807) (hn : n ≤ 1000000) (many : Int) (l : List Bool) (r : List Int) (er : Int) (hl : takeB b many = (l, r, er)) :
    Calls Tryd.prog 24 #[.slice A n cap, .int .i64 many] w (TakeOutB w l r er) := by
  have HR := Lib.hid hr; have HU := Lib.hid hu
  clear hr hu
  unfold takeB at hl
  by_cases hbad : many < 0 ∨ 4096 < many
  · rw [if_pos hbad] at hl
    injection hl with e1 hl; injection hl with e2 e3
    subst e1 e2 e3
    rcases hbad with hbad | hbad
    all_goals
      go_enter Tryd.func24, Tryd.ntmps24
      go_wp2_with fail
      go_returns
      exact ⟨none, 0, 0, none, 0, 0, rfl, Sb.nil _, Sl.nil _ _, Below.refl _ _⟩
  · rw [if_neg hbad] at hl
    obtain ⟨m, rfl⟩ := Int.eq_ofNat_of_zero_le (show 0 ≤ many by omega)
    rw [Int.toNat_natCast] at hl
    have hlen := decR_len b ((m + 7) / 8)
    have hu8 := decR_u8 b ((m + 7) / 8) HU.out
    obtain ⟨x, t, e, hd⟩ : ∃ x t e, decR b (((m : Int) + 7) / 8) = (x, t, e) := ⟨_, _, _, rfl⟩
    rw [hd] at hl hlen hu8
    dsimp only at hl hlen hu8
    have HD := Lib.hid hd; have HX := Lib.hid hu8.1
    clear hd hu8
    have hm8 : ((m : Int) + 8 - 1) / 8 = ((m : Int) + 7) / 8 := by omega
    by_cases he : e ≠ 0
    · rw [if_pos he] at hl
      injection hl with e1 hl; injection hl with e2 e3
      subst e1 e2 e3
      have he' : ¬ e = 0 := he
      clear he hlen
      go_enter Tryd.func24, Tryd.ntmps24
      go_wp2_with fail
      refine (Take5_any _ _ _ _ b HR.out HU.out hc hm hn _ x t e HD.out).mono ?_; rintro e' w1 ⟨G1, n1, c1, G2, n2, c2, rfl, hs1, hs2, hb1⟩
      go_wp2_with fail
      go_returns
      exact ⟨none, 0, 0, none, 0, 0, rfl, Sb.nil _, Sl.nil _ _, hb1⟩
    · obtain rfl : e = 0 := by omega
      rw [if_neg he] at hl
      have HL := Lib.hid hl
      obtain ⟨_, _, hxl⟩ := hlen rfl
      clear hl he hlen
      go_enter Tryd.func24, Tryd.ntmps24
      go_wp2_with fail
      refine (Take5_any _ _ _ _ b HR.out HU.out hc hm hn _ x t 0 HD.out).mono ?_; rintro e' w1 ⟨G1, n1, c1, G2, n2, c2, rfl, hs1, hs2, hb1⟩
      have hn1 := hs1.1.len
      have H1 := Lib.hid hs1.1; have H2 := Lib.hid hs2; have HB1 := Lib.hid hb1
      clear hs1 hs2 hb1
      clear hm8
      go_wp2_with fail
      have hL8 : x.length ≤ 1000 := by omega
      have hLm : m ≤ 8 * x.length ∧ 8 * x.length < m + 8 := by omega
      subst hn1
      clear hxl
      generalize hLL : x.length = L at *
      have HLL := Lib.hid hLL; clear hLL
      go_loopw [10, 34] (fun v i wr => ∃ j : Nat, j ≤ L ∧ i = .int .i64 j ∧ Hid (wr.ownsRow w1.heap.size 4 1 v (8 * j) ((bitsB x (8 * j)).map Value.bool)) ∧ Hid (Below w1.heap.size w1 wr)) (fun _ i _ => L - (intOf i).toNat)
      case atStart => exact ⟨0, by omega, rfl, Lib.hid (World.ownsRow_nil _ _ _ _), Below.refl _ _⟩
      case round =>
        obtain ⟨j, hj, rfl, ho, hb⟩ := hrel
        obtain ⟨wo, rfl⟩ : ∃ wo : World, wo = wr := ⟨_, rfl⟩
        by_cases hlt : j < L
        · obtain ⟨bb, oo, hA, hbl, hcell⟩ := H1.out.at_ (j := j) (by omega)
          subst hA
          have hc3 := (hb.out.cell (p := ⟨bb, oo + j, none⟩) hbl).trans hcell
          have hy := getD_u8 HX.out j
          obtain ⟨y, hyy⟩ : ∃ y : Nat, (y : Int) = x.getD j 0 := ⟨(x.getD j 0).toNat, by omega⟩
          have hbit : Hid (∀ t, t < 8 → bitAt x (8 * j + t) = decide (y / 2 ^ (7 - t) % 2 = 1)) := Lib.hid (fun t ht => by rw [bitAt_eq x j t ht, ← hyy, Int.toNat_natCast])
          rw [← hyy] at hc3 hy
          clear hcell hyy
          go_wp2_with fail
          go_loopw [10, 38] (fun v i wi => ∃ q : Nat, q ≤ 8 ∧ i = .int .i64 q ∧ Hid (wi.ownsRow w1.heap.size 4 1 v (8 * j + q) ((bitsB x (8 * j + q)).map Value.bool)) ∧ Hid (Below w1.heap.size w1 wi)) (fun _ i _ => 8 - (intOf i).toNat)
          case atStart => exact ⟨0, by omega, rfl, ho, hb⟩
          case round =>
            obtain ⟨q, hq, rfl, hoi, hbi⟩ := hrel
            by_cases hqt : q < 8
            · have htest := bit_test y (by omega) q hqt
              rw [← hbit.out q hqt] at htest
              have HT := Lib.hid htest
              have hz8 := hbi.out.size
              clear htest
              go_wp2_with (at_builtin; refine wpList_bool _ rfl _ _ rfl w1.heap.size _ (8 * j + q) _ rfl (hoi.out.alloc _) _ 1 1 [_] rfl (Rd.one _ _ _) (by omega) (by simp; omega) ?_; intro G c w2 hown hgr hcc)
              have HOWN := Lib.hid hown; clear hown
              go_wp2_with fail
              go_roundw
              case rel =>
                refine ⟨q + 1, by omega, by go_num, ?_, push_ hbi.out (Nat.le_refl _) hoi.out hgr⟩
                have h := HOWN.out
                rw [HT.out, ← bitsB_succ] at h
                exact Lib.hid h
              case measure => simp [intOf] <;> omega
            · obtain rfl : q = 8 := by omega
              go_wp2_with fail
              go_roundw
              case rel => exact ⟨j + 1, by omega, by go_num, hoi, hbi⟩
              case measure => simp [intOf] <;> omega
        · obtain rfl : j = L := by omega
          have H3 := Lib.hid (H2.out.below hb.out)
          have HBB := Lib.hid (on HB1.out hb.out)
          rcases ho.out.2 with ⟨rfl, h0⟩ | ⟨g, cg, cur, rfl, hh⟩
          · obtain rfl : j = 0 := by omega
            obtain rfl : m = 0 := by omega
            have h := HL.out
            rw [if_neg (show ¬ countB ((bitsB x (8 * 0)).drop 0) > 0 by simp [bitsB, countB])] at h
            injection h with e1 h; injection h with e2 e3
            subst e1 e2 e3
            clear h0
            go_wp2_with fail
            refine (Count_any _ _ _ _ [] (Rb.nil _ _) (by omega)).mono ?_
            rintro e' w3 ⟨rfl, rfl⟩
            rw [show countB [] = 0 from rfl]
            go_wp2_with fail
            go_returns
            exact ⟨_, _, _, _, _, _, rfl, Sb.nil _, H3.out, HBB.out⟩
          · have HO := Lib.hid ho.out
            have hcg := own_cap ho.out
            clear hh ho
            have HRB := Lib.hid (Rb.of_own HO.out)
            have HR1 := Lib.hid (HRB.out.rest (i := m) (b := g) (o := 0) (by omega) (fun _ => rfl))
            rw [Nat.zero_add] at HR1
            have HF := Lib.hid (HRB.out.first (m := m) (by omega))
            rw [bitsB_take x (8 * j) m (by omega)] at HF
            have hlo : cg = m → 8 * j - m = 0 := fun h => by omega
            have HLO := Lib.hid hlo
            clear hlo
            have hcnt : countB ((bitsB x (8 * j)).drop m) ≤ 8000 := Nat.le_trans (countB_le _) (by rw [List.length_drop, bitsB_len]; omega)
            have h := HL.out
            generalize hcc : countB ((bitsB x (8 * j)).drop m) = C at *
            have HCC := Lib.hid hcc; clear hcc
            rcases Nat.eq_zero_or_pos C with hC | hC
            · rw [if_neg (by omega)] at h
              injection h with e1 h; injection h with e2 e3
              subst e1 e2 e3
              subst hC
              clear hcnt
              go_wp2_with fail
              all_goals
                refine (Count_any _ _ _ _ ((bitsB x (8 * j)).drop m) (by first | exact HR1.out | exact HR1.out.zero (by omega) _) (by omega)).mono ?_
                rintro e' w3 ⟨rfl, rfl⟩
                rw [HCC.out]
                go_wp2_with fail
                go_returns
                exact ⟨_, _, _, _, _, _, rfl, ⟨HF.out, by omega, by omega⟩, H3.out, HBB.out⟩
            · rw [if_pos hC] at h
              injection h with e1 h; injection h with e2 e3
              subst e1 e2 e3
              go_wp2_with fail
              all_goals
                refine (Count_any _ _ _ _ ((bitsB x (8 * j)).drop m) (by first | exact HR1.out | exact HR1.out.zero (by omega) _) (by omega)).mono ?_
                rintro e' w3 ⟨rfl, rfl⟩
                rw [HCC.out]
                go_wp2_with fail
                go_returns
                exact ⟨none, 0, 0, none, 0, 0, rfl, Sb.nil _, Sl.nil _ _, HBB.out⟩
end Go.Proofs.YtbmooemlekckbaaDoor

/- How long bytes are that truths come to. -/
namespace Go.Proofs.YtbmooemlekckbaaDoor
open Go.RowKit

theorem enc_lenN (n : Nat) : ∀ b pend : List Int, b.length ≤ n → (enc 0 pend b).length ≤ 2 * (pend.length + b.length) := by
  induction n with
  | zero =>
    intro b pend hb
    obtain rfl : b = [] := List.eq_nil_of_length_eq_zero (by omega)
    rw [enc_nil]; simpa using chunks_len pend
  | succ n ih =>
    intro b pend hb
    rcases Nat.eq_zero_or_pos b.length with h0 | h0
    · obtain rfl : b = [] := List.eq_nil_of_length_eq_zero h0
      rw [enc_nil]; simpa using chunks_len pend
    · have hr1 := runN_pos h0
      have hrl := runN_le b
      have hld : (b.drop (runN b)).length = b.length - runN b := List.length_drop
      have hlt : (b.take (runN b)).length = runN b := by rw [List.length_take]; omega
      rcases Nat.lt_or_ge (runN b) 3 with h3 | h3
      · have := ih (b.drop (runN b)) (pend ++ b.take (runN b)) (by omega)
        rw [enc_short b pend h0 h3]
        rw [List.length_append] at this
        omega
      · have h1 := ih (b.drop (runN b)) [] (by omega)
        have h2 := chunks_len pend
        rw [enc_long b pend h3, List.length_append, List.length_cons, List.length_cons]
        simp only [List.length_nil] at h1
        omega
theorem put_lenN (l : List Bool) (h : l.length ≤ 4096) : (enc 0 [] (bytesB l)).length ≤ 2000 := by
  have := enc_lenN (bytesB l).length (bytesB l) [] (Nat.le_refl _)
  rw [bytesB_len] at this
  simp only [List.length_nil] at this
  omega

end Go.Proofs.YtbmooemlekckbaaDoor

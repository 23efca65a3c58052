/- The walk through DeltaBack. -/
import Derived.Test.YtpgkbcgjjmdfiaaShown9
import Derived.Test.YtpgkbcgjjmdfiaaPlainDe
import Derived.Test.YtpgkbcgjjmdfiaaSame8
import Derived.BigQuiet
import Derived.Test.YtpgkbcgjjmdfiaaRefDTakeA
namespace Go.Proofs.Ytpgkbcgjjmdfiaa
open Go.RowKit

theorem and_50 (y : Int) : bits .and .i64 y 1125899906842623 = y % 1125899906842624 := by
  show IntKind.i64.wrap ((BitVec.ofInt 64 y &&& BitVec.ofInt 64 1125899906842623).toNat : Int) = _
  rw [BitVec.toNat_and, BitVec.toNat_ofInt, show (BitVec.ofInt 64 1125899906842623).toNat = 2 ^ 50 - 1 from by decide, Nat.and_two_pow_sub_one_eq_mod, IntKind.wrap_i64]
  omega
/-- What the first numbers are like. -/
def ChainP (f : Bool) (x0 : Int) (l : List Int) (j : Nat) : Prop :=
  l.length = j + 1 ∧ l.getD 0 0 = x0 ∧ (∀ i, i ≤ j → x0 - i * 1125899906842624 ≤ l.getD i 0 ∧ l.getD i 0 ≤ x0 + i * 1125899906842624) ∧
    (∀ i, i < j → if f then -1125899906842624 < dAt l i ∧ dAt l i ≤ 0 else 0 ≤ dAt l i ∧ dAt l i < 1125899906842624)
theorem getD_snoc (l : List Int) (y : Int) (i : Nat) : (l ++ [y]).getD i 0 = if i < l.length then l.getD i 0 else if i = l.length then y else 0 := by
  by_cases h : i < l.length
  · rw [if_pos h]; simp [List.getD, List.getElem?_append_left h]
  · rw [if_neg h]
    by_cases h2 : i = l.length
    · subst h2; rw [if_pos rfl]; simp [List.getD]
    · rw [if_neg h2]; simp [List.getD, List.getElem?_append_right (show l.length ≤ i by omega), List.getElem?_eq_none (show [y].length ≤ i - l.length by simp; omega)]
theorem chain_snoc {f : Bool} {x0 : Int} {l : List Int} {j : Nat} (h : ChainP f x0 l j) (d : Int) (hd : if f then -1125899906842624 < d ∧ d ≤ 0 else 0 ≤ d ∧ d < 1125899906842624) : ChainP f x0 (l ++ [l.getD j 0 + d]) (j + 1) := by
  obtain ⟨h1, h2, h3, h4⟩ := h
  refine ⟨by simp [h1], ?_, fun i hi => ?_, fun i hi => ?_⟩
  · rw [getD_snoc, if_pos (by omega)]; exact h2
  · rw [getD_snoc]
    by_cases hij : i ≤ j
    · rw [if_pos (by omega)]; exact h3 i hij
    · obtain rfl : i = j + 1 := by omega
      rw [if_neg (by omega), if_pos (by omega)]
      have := h3 j (Nat.le_refl _)
      cases f
      · rw [if_neg (by decide)] at hd; omega
      · rw [if_pos rfl] at hd; omega
  · have e1 : (l ++ [l.getD j 0 + d]).getD i 0 = l.getD i 0 := by rw [getD_snoc, if_pos (by omega)]
    by_cases hij : i < j
    · have e2 : (l ++ [l.getD j 0 + d]).getD (i + 1) 0 = l.getD (i + 1) 0 := by rw [getD_snoc, if_pos (by omega)]
      have := h4 i hij
      unfold dAt at this ⊢
      rw [e1, e2]
      exact this
    · obtain rfl : i = j := by omega
      have e2 : (l ++ [l.getD i 0 + d]).getD (i + 1) 0 = l.getD i 0 + d := by rw [getD_snoc, if_neg (by omega), if_pos (by omega)]
      unfold dAt
      rw [e1, e2, show l.getD i 0 + d - l.getD i 0 = d from by omega]
      exact hd
theorem chain_i64 {f : Bool} {x0 : Int} {l : List Int} {j : Nat} (h : ChainP f x0 l j) (hj : j ≤ 511) (hx : -576460752303423488 ≤ x0 ∧ x0 < 576460752303423488) : I64 l := by
  intro y hy
  obtain ⟨i, hi, rfl⟩ := List.mem_iff_getElem.1 hy
  have h3 := h.2.2.1 i (by have := h.1; omega)
  simp only [List.getD, List.getElem?_eq_getElem hi, Option.getD_some] at h3
  have : (i : Int) * 1125899906842624 ≤ 511 * 1125899906842624 := by have := h.1; omega
  omega
theorem chain_ok {f : Bool} {x0 : Int} {l : List Int} {j : Nat} (h : ChainP f x0 l j) (h0 : f = false ∨ dAt l 0 < 0) : okD l j = true := by
  rw [okD, List.all_eq_true]
  intro i hi
  have h4 := h.2.2.2 i (List.mem_range.1 hi)
  have h5 := h.2.2.2 0 (by have := List.mem_range.1 hi; omega)
  unfold okAt
  simp only [Bool.and_eq_true, decide_eq_true_eq, Bool.or_eq_true, beq_iff_eq]
  cases f
  · rw [if_neg (by decide)] at h4 h5
    refine ⟨by unfold absI; split <;> omega, .inr ?_⟩
    rw [decide_eq_false (by omega), decide_eq_false (by omega)]
  · rw [if_pos rfl] at h4 h5
    have h0' : dAt l 0 < 0 := by rcases h0 with h0 | h0; cases h0; exact h0
    refine ⟨by unfold absI; split <;> omega, ?_⟩
    by_cases hz : dAt l i = 0
    · exact .inl hz
    · right; rw [decide_eq_true (by omega), decide_eq_true h0']
theorem chain_falls {x0 : Int} {l : List Int} {j : Nat} (h : ChainP true x0 l j) : ∀ a b, a ≤ b → b ≤ j → l.getD b 0 ≤ l.getD a 0 := by
  intro a b hab hb
  induction b with
  | zero =>
    obtain rfl : a = 0 := by omega
    exact Int.le_refl _
  | succ b ih =>
    rcases Nat.lt_or_ge a (b + 1) with h1 | h1
    · have h2 := ih (by omega) (by omega)
      have h3 := h.2.2.2 b (by omega)
      rw [if_pos rfl] at h3
      unfold dAt at h3
      omega
    · obtain rfl : a = b + 1 := by omega
      exact Int.le_refl _
theorem chain_bad {f : Bool} {x0 : Int} {l : List Int} {j : Nat} (h : ChainP f x0 l j) (hb : okD l j = false) : f = true ∧ l.getD 1 0 = l.getD 0 0 ∧ l.getD j 0 < l.getD 0 0 ∧ 1 ≤ j := by
  have hj : 1 ≤ j := by
    rcases Nat.eq_zero_or_pos j with rfl | hj
    · simp [okD] at hb
    · exact hj
  have hf : f = true := by
    cases f
    · rw [chain_ok h (.inl rfl)] at hb; cases hb
    · rfl
  subst hf
  have h0 : ¬ dAt l 0 < 0 := fun h' => by rw [chain_ok h (.inr h')] at hb; cases hb
  have h4 := h.2.2.2 0 (by omega)
  rw [if_pos rfl] at h4
  have e0 : dAt l 0 = l.getD 1 0 - l.getD 0 0 := rfl
  refine ⟨rfl, by omega, ?_, hj⟩
  rw [okD, List.all_eq_false] at hb
  obtain ⟨i, hi, h5⟩ := hb
  have hi' := List.mem_range.1 hi
  have h6 := h.2.2.2 i hi'
  rw [if_pos rfl] at h6
  have h7 : dAt l i ≠ 0 := by
    intro hz
    apply h5
    unfold okAt
    rw [hz]
    simp [absI]
  have h8 := chain_falls h 0 i (by omega) (by omega)
  have h9 := chain_falls h (i + 1) j (by omega) (Nat.le_refl _)
  unfold dAt at h6 h7
  omega
theorem putDe_none (l : List Int) (h : l.length < 2 ∨ okD l (l.length - 1) = false) : putDe l true = ([], 1) := by
  unfold putDe
  rw [if_pos]
  unfold badDe
  rcases h with h | h
  · exact .inl h
  · exact .inr (.inr (.inr h))
theorem putDe_fine (l : List Int) (h2 : 2 ≤ l.length) (h5 : l.length ≤ 512) (hu : I64 l) (hok : okD l (l.length - 1) = true) : ∃ r, putDe l true = (r, 0) ∧ U8 r ∧ r.length ≤ 4200 := by
  have hbd : ¬ badDe l true := by
    unfold badDe
    rw [hok]
    intro h
    rcases h with h | h | ⟨h, _⟩ | h
    · omega
    · omega
    · cases h
    · cases h
  have hd0 := dAt0_range l (l.length - 1) (by omega) hok
  have hx0 := getD_i64x hu 0
  unfold putDe
  rw [if_neg hbd]
  refine ⟨_, rfl, ?_, ?_⟩
  · have hhead : ∀ c : Int, U8 (headR 3 c l.length) := by
      intro c y hy
      unfold headR at hy
      split at hy
      · simp at hy; omega
      · cases hy
    have hpack : U8 (packR (tailDe l) (widthDe l)).1 := by
      unfold packR
      split
      · intro y hy; cases hy
      · split
        · intro y hy; cases hy
        · split
          · exact bytesOf_u8 _ _
          · intro y hy; cases hy
    intro y hy
    rcases List.mem_append.1 hy with hy | hy
    · rcases List.mem_append.1 hy with hy | hy
      · rcases List.mem_append.1 hy with hy | hy
        · exact hhead _ y hy
        · exact vput_u8 9 _ (unsN_lt _ true hx0) y hy
      · exact vput_u8 9 _ (unsN_lt _ true hd0.1) y hy
    · exact hpack y hy
  · have h6 := head_len 3 (codeDe l) (l.length : Int)
    have h7 := (vput_len 9 (unsN (l.getD 0 0) true)).2
    have h8 := (vput_len 9 (unsN (dAt l 0) true)).2
    have h9 : (packR (tailDe l) (widthDe l)).1.length ≤ 4100 := by
      cases hsm : sameD l (l.length - 1)
      · rw [show tailDe l = (dsz l (l.length - 1)).drop 1 from by unfold tailDe; rw [hsm]; rfl, show widthDe l = wClosest (max 2 (mostBits ((dsz l (l.length - 1)).drop 1) : Int)) from by unfold widthDe; rw [hsm]; rfl]
        have htl : ((dsz l (l.length - 1)).drop 1).length = l.length - 2 := by rw [List.length_drop, dsz_len]; omega
        obtain ⟨K, hkw, hk2, hk64, hroom⟩ := most2_room _ (tail_u64 l (l.length - 1) hok)
        obtain ⟨P, hpp, hpl0⟩ := packR_ok _ K hk64 (by rw [htl]; omega) hroom
        rw [hkw, hpp]
        rw [htl] at hpl0
        have : (l.length - 2) * K ≤ 510 * 64 := Nat.mul_le_mul (by omega) hk64
        dsimp only
        omega
      · rw [show tailDe l = [] from by unfold tailDe; rw [hsm]; rfl, show widthDe l = 0 from by unfold widthDe; rw [hsm]; rfl]
        decide
    simp only [List.length_append]
    unfold vput
    omega

theorem own_first9 {w : World} {base : Nat} {e : TypeId} {G : Option Addr} {m c : Nat} {k : IntKind} {l : List Int} (h : w.ownsRow base e 1 (.slice G m c) m (l.map (Value.int k))) (hm : 0 < m) :
    ∃ g, G = some ⟨g, 0, none⟩ ∧ base ≤ g ∧ w.cell? ⟨g, 0, none⟩ = some (.int k (l.getD 0 0)) := by
  rcases h.2 with ⟨_, h0⟩ | ⟨g, cg, cur, hv, hg, _⟩
  · omega
  · injection hv with h1 h2 h3
    obtain ⟨b, o, e1, _, hc⟩ := (Ri.of_own h).all hm
    have h4 := hc 0 hm
    rw [h1] at e1
    injection e1 with e1; injection e1 with e2 e3
    subst e2 e3
    exact ⟨g, h1, hg, h4⟩
set_option maxRecDepth 100000 in
set_option maxHeartbeats 2000000 in
theorem DeltaBack_walk (w : World) (x : Int) (hx : -9223372036854775808 ≤ x ∧ x < 9223372036854775808) (A : Option Addr) (n cap : Nat) (st : List Int) (hr : Ri w .i64 A n st) (hu : I64 st) (hc : n ≤ cap) (_hm : cap ≤ maxLen) (f : Bool) :
    Calls Try.prog 7 #[.int .i64 x, .slice A n cap, .bool f] w fun e w' => e = .returned (.bool true) ∧ Below w.heap.size w w' := by
  have HR := Lib.hid hr; have HU := Lib.hid hu
  clear hr hu
  obtain ⟨x0, hx0⟩ : ∃ x0, x0 = x / 16 := ⟨_, rfl⟩
  have hxr : -576460752303423488 ≤ x0 ∧ x0 < 576460752303423488 := by omega
  have hx16 := hx0.symm
  clear hx0
  go_enter Try.func7, Try.ntmps7
  go_wp2_with fail
  refine (shown09_any _).mono ?_; rintro e w1 ⟨rfl, hb1⟩
  have HB1 := Lib.hid hb1; clear hb1
  go_wp2_with fail
  clear hx16
  go_loopw [8, 9] (fun v i wr => ∃ (j : Nat) (l : List Int), j ≤ n ∧ j ≤ 511 ∧ i = .int .i64 j ∧ Hid (ChainP f x0 l j) ∧ Hid (wr.ownsRow w1.heap.size 3 1 v (j + 1) (l.map (Value.int .i64))) ∧ Hid (Below w1.heap.size w1 wr)) (fun _ i _ => 512 - (intOf i).toNat)
  case atStart =>
    refine ⟨0, [x0], by omega, by omega, rfl, Lib.hid ⟨rfl, rfl, fun i hi => ?_, fun i hi => absurd hi (by omega)⟩, own_lit1 w1 .i64 x0 _, (Below.refl _ _).alloc (Nat.le_refl _) _⟩
    obtain rfl : i = 0 := by omega
    simp
  case round =>
    obtain ⟨j, l, hj, hj5, rfl, hch, ho, hb⟩ := hrel
    by_cases hlt : j < n ∧ j < 511
    · obtain ⟨hlt1, hlt2⟩ := hlt
      obtain ⟨G, c, rfl⟩ := own_form ho.out
      obtain ⟨g, hGg, _, _⟩ := own_first9 ho.out (by omega)
      subst hGg
      obtain ⟨b3, o3, e3, _, hcj⟩ := (Ri.of_own ho.out).at_ (j := j) (by omega)
      injection e3 with e3; injection e3 with e4 e5
      subst e4 e5
      rw [Nat.zero_add] at hcj
      obtain ⟨bb, oo, hA, hbl, hcell⟩ := HR.out.at_ hlt1
      subst hA
      have hc3 := ((on HB1.out hb.out).cell (p := ⟨bb, oo + j, none⟩) hbl).trans hcell
      have hlj := hch.out.2.2.1 j (Nat.le_refl _)
      have hlr : -1152921504606846976 ≤ l.getD j 0 ∧ l.getD j 0 ≤ 1152921504606846976 := by
        have : (j : Int) * 1125899906842624 ≤ 511 * 1125899906842624 := by omega
        omega
      have hand := and_50 (st.getD j 0)
      have hD0 : 0 ≤ st.getD j 0 % 1125899906842624 ∧ st.getD j 0 % 1125899906842624 < 1125899906842624 := by omega
      have hcs := fun d hd => Lib.hid (chain_snoc hch.out d hd)
      have HCS := Lib.hid hcs
      have hz := hb.out.size
      clear hcell hlj hcs
      generalize st.getD j 0 % 1125899906842624 = D at *
      generalize st.getD j 0 = y at *
      generalize l.getD j 0 = lj at *
      cases f
      · go_wp2_with (at_builtin; refine wpList_i64 _ rfl _ _ rfl w1.heap.size _ (j + 1) l rfl (own_below ho.out ((Below.refl _ _).alloc (Nat.le_refl _) _)) _ 1 1 [_] rfl (ri_one_at rfl) (by omega) (by simp; omega) ?_; intro G2 c2 w7 hown hgr hcc)
        have HOWN := Lib.hid hown; have HNB := Lib.hid (push_ hb.out (Nat.le_refl _) ho.out hgr)
        have HC2 := (HCS.out D (by rw [if_neg (by decide)]; exact hD0))
        clear hown hgr
        go_wp2_with fail
        go_roundw
        case rel => exact ⟨j + 1, _, by omega, by omega, by go_num, HC2, HOWN, HNB⟩
        case measure => simp [intOf] <;> omega
      · go_wp2_with (at_builtin; refine wpList_i64 _ rfl _ _ rfl w1.heap.size _ (j + 1) l rfl (own_below ho.out ((Below.refl _ _).alloc (Nat.le_refl _) _)) _ 1 1 [_] rfl (ri_one_at rfl) (by omega) (by simp; omega) ?_; intro G2 c2 w7 hown hgr hcc)
        have HOWN := Lib.hid hown; have HNB := Lib.hid (push_ hb.out (Nat.le_refl _) ho.out hgr)
        have HC2 := (HCS.out (-D) (by rw [if_pos rfl]; omega))
        clear hown hgr
        go_wp2_with fail
        go_roundw
        case rel => exact ⟨j + 1, _, by omega, by omega, by go_num, HC2, HOWN, HNB⟩
        case measure => simp [intOf] <;> omega
    · have hLI := chain_i64 hch.out hj5 hxr
      have hLl := hch.out.1
      obtain ⟨G, c, rfl⟩ := own_form ho.out
      obtain ⟨g, hGg, _, _⟩ := own_first9 ho.out (by omega)
      subst hGg
      have hcc := own_cap ho.out
      have HL := Lib.hid (Ri.of_own ho.out); have HBr := Lib.hid (on HB1.out hb.out); have HLI := Lib.hid hLI
      have hstop : (n ≤ j ∧ ¬ j < n) ∨ (j = 511 ∧ j < n) := by omega
      have hbad := chain_bad hch.out
      have HLl := Lib.hid hLl
      clear hLI hlt hb ho
      have hstop' : (¬ (j : Int) < (n : Int)) ∨ ((j : Int) < (n : Int) ∧ ¬ (j : Int) < 511) := by omega
      clear hstop
      rcases Nat.eq_zero_or_pos j with rfl | hj0
      · have hp := putDe_none l (.inl (by rw [HLl.out]; omega))
        have HP := Lib.hid hp
        clear hbad hp
        have hn0 : ¬ ((0 : Nat) : Int) < (n : Int) := by rcases hstop' with h | h; exact h; omega
        have hn0' : n = 0 := by omega
        subst hn0'
        clear hstop' hn0
        go_wp2_with fail
        refine (DePut_any _ _ _ _ l HL.out HLI.out hcc.1 hcc.2 (by omega) true [] 1 HP.out).mono ?_; rintro e w4 ⟨G4, n4, c4, rfl, hs4, hb4⟩
        have hn4 := hs4.1.len
        obtain rfl : n4 = 0 := by simpa using hn4.symm
        have HB4 := Lib.hid (on HBr.out hb4)
        clear hs4 hb4 hn4
        go_wp2_with fail
        go_ret
        exact ⟨rfl, HB4.out⟩
      · cases hok : okD l j
        · obtain ⟨rfl, h10, hj1, _⟩ := hbad hok
          have hp := putDe_none l (.inr (by rw [HLl.out]; exact hok))
          have HP := Lib.hid hp
          clear hbad hp hok
          rcases hstop' with hs | ⟨hs, hs'⟩
          all_goals
            go_wp2_with fail
            refine (DePut_any _ _ _ _ l HL.out HLI.out hcc.1 hcc.2 (by omega) true [] 1 HP.out).mono ?_; rintro e w4 ⟨G4, n4, c4, rfl, hs4, hb4⟩
            have HB4 := Lib.hid (on HBr.out hb4)
            obtain ⟨b5, o5, e5, _, hcs⟩ := (HL.out.below hb4).all (by omega)
            injection e5 with e5; injection e5 with e6 e7
            subst e6 e7
            have k0 := hcs 0 (by omega)
            have k1 := hcs 1 (by omega)
            have kj := hcs j (by omega)
            rw [Nat.zero_add] at k0 k1 kj
            rw [h10] at k1
            clear hs4 hb4 hcs
            generalize l.getD 0 0 = v0 at *
            generalize l.getD j 0 = vj at *
            have hnj := IntWalk.wrap64_in ((j : Int) + 1 - 1) (by omega)
            have hnj2 : IntKind.i64.wrap ((j : Int) + 1 - 1) = (j : Int) := by rw [IntKind.wrap_i64]; omega
            have hj3 : (j : Int) < (j : Int) + 1 := by omega
            have hj4 : (0 : Int) ≤ (j : Int) := by omega
            have hj5' : (1 : Int) < (j : Int) + 1 := by omega
            have hj6 : (0 : Int) < (j : Int) + 1 := by omega
            go_wp2_with fail
            go_quiet (fail)
            go_wp2_with fail
            go_quiet (fail)
            go_wp2_with fail
            go_ret
            exact ⟨rfl, below_drewN (below_drewN HB4.out _) _⟩
        · have hLlo := HLl.out
          obtain ⟨r, hp, hrU, hrl⟩ := putDe_fine l (by omega) (by omega) HLI.out (by rw [hLlo]; exact hok)
          have hback := de_back l HLI.out (by omega) (by omega) (by rw [hLlo]; exact hok) [9, 8]
          rw [hp] at hback
          have HP := Lib.hid hp; have HRU := Lib.hid hrU; have HBK := Lib.hid hback
          have hj5c : j ≤ 511 := hj5
          clear hbad hp hok hrU hback hLlo
          rcases hstop' with hs | ⟨hs, hs'⟩ <;> cases f
          all_goals
            go_wp2_with fail
            refine (DePut_any _ _ _ _ l HL.out HLI.out hcc.1 hcc.2 (by omega) true r 0 HP.out).mono ?_; rintro e w4 ⟨G4, n4, c4, rfl, hs4, hb4⟩
            have hn4 := hs4.1.len
            subst hn4
            have HB4 := Lib.hid (on HBr.out hb4); have HS4 := Lib.hid hs4; have HL4 := Lib.hid (HL.out.below hb4)
            obtain ⟨b5, o5, e5, _, hcs⟩ := HL4.out.all (by omega)
            injection e5 with e5; injection e5 with e6 e7
            subst e6 e7
            have k0 := hcs 0 (by omega)
            have k1 := hcs 1 (by omega)
            rw [Nat.zero_add] at k0 k1
            clear hs4 hb4 hcs
            generalize l.getD 0 0 = v0 at *
            generalize l.getD 1 0 = v1 at *
            have hvv : v1 = v0 ∨ ¬ v1 = v0 := Classical.em _
            rcases hvv with rfl | hvne
            all_goals
              have hj5' : (1 : Int) < (j : Int) + 1 := by omega
              have hj6 : (0 : Int) < (j : Int) + 1 := by omega
              go_wp2_with fail
              go_quiet (fail)
              obtain ⟨w5, hw5⟩ : ∃ w5, w5 = w4.drewN nq := ⟨_, rfl⟩
              have HS5 : Hid (Sl w5 .u8 G4 r.length c4 r) := by rw [hw5]; exact Lib.hid ⟨HS4.out.1.drewN nq, HS4.out.2⟩
              have HL5 : Hid (Ri w5 .i64 (some ⟨g, 0, none⟩) (j + 1) l) := by rw [hw5]; exact Lib.hid (HL4.out.drewN nq)
              have HB5 : Hid (Below w.heap.size w w5) := by rw [hw5]; exact Lib.hid (below_drewN HB4.out nq)
              rw [← hw5]
              clear k0 k1 HS4 HL4 HB4 hw5
              go_wp2_with (first | (at_builtin; refine wpList_u8 _ rfl (.tmp 98) (.tmp 99) rfl w5.heap.size _ 0 [] rfl (own_empty w5 _ 1) _ _ _ r rfl (HS5.out.1.alloc _) (by omega) (by simp) ?_; intro G6 c6 w6 hown hgr _; have hb6 := push0 ((Below.refl w5.heap.size w5).alloc (Nat.le_refl _) _) (Nat.le_refl _) (own_empty w5 _ 1) hgr; rw [Nat.zero_add, List.nil_append] at hown; have hz6 := hb6.size; have HO6 := Lib.hid hown; clear hown hgr) | (at_builtin; refine wpList_u8 _ rfl (.tmp 100) (.tmp 101) rfl w5.heap.size _ _ r rfl (own_below HO6.out ((Below.refl _ _).alloc (Nat.le_refl _) _)) _ _ _ [9, 8] rfl (Ri_lit _ _ _ _ _ rfl _ rfl) (by omega) (by simp; omega) ?_; intro G7 c7 w7 hown hgr _; have hb7 := push_ hb6 (Nat.le_refl _) HO6.out hgr))
              have HS7 := Lib.hid (Sl.of_own hown)
              have HU7 : Hid (U8 (r ++ [9, 8])) := by
                intro z hz
                rcases List.mem_append.1 hz with h | h
                · exact HRU.out z h
                · simp at h; omega
              clear hown hgr
              refine (DeTake_any _ _ _ _ (r ++ [9, 8]) HS7.out.1 HU7.out HS7.out.2.1 HS7.out.2.2 (by omega) true l [9, 8] 0 HBK.out).mono ?_; rintro e w8 ⟨G8, n8, c8, G9, n9, c9, rfl, hr8, hr9, hb8⟩
              have HB8 := Lib.hid (on hb7 hb8); have HR8 := Lib.hid hr8; have HR9 := Lib.hid hr9
              have hn8 := hr8.1.len
              clear hb6 hb7 hb8 hr8 hr9
              go_wp2_with fail
              refine (Same8_any _ _ _ _ _ _ _ l l HR8.out.1 (HL5.out.below HB8.out) (by omega) (by omega) HLI.out HLI.out).mono ?_; rintro e w9 ⟨rfl, hb9⟩
              rw [decide_eq_true rfl]
              have cv3 := conv_any (c := c9) (HR9.out.1.below hb9)
              have s1 : (strOf [9, 8]).toList = [9, 8] := strOf_toList _
              have HB := Lib.hid (on (on HB5.out HB8.out) hb9)
              clear hb9 hn8
              go_wp2_with fail
              go_ret
              exact ⟨rfl, HB.out⟩
end Go.Proofs.Ytpgkbcgjjmdfiaa

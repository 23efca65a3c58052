/- Joined texts: PlainGt, GlOne, PlainGb. Each has its own head line. No condition beyond those that its theorems state. -/
import Derived.Test.YtmejoococajikaaGreatJ28
import Derived.Test.YtmejoococajikaaGreatJ18
import Derived.Test.YtmejoococajikaaGreatJ25
import Derived.Test.YtmejoococajikaaGreatJ26
import Derived.Test.YtmejoococajikaaGreatJ21
import Derived.Test.YtmejoococajikaaGreatJ20
import Derived.Test.YtmejoococajikaaGreatJ27
import Derived.Test.YtmejoococajikaaGreatJ35
import Derived.Test.YtmejoococajikaaGreatJ36
import Derived.Test.YtmejoococajikaaGreatJ37
import Derived.Test.YtmejoococajikaaGreatJ32
import Derived.Test.YtmejoococajikaaGreatJ38
import Derived.Test.YtmejoococajikaaGreatJ29
set_option linter.unusedVariables false

/- Rle: plain: runs are taken. -/
namespace Go.Proofs.YtmejoococajikaaGreat
open Go.RowKit

theorem unpackR_rest (l : List Int) (m x : Int) (hu : U8 l) : U8 (unpackR l m x).2.1 ∧ (unpackR l m x).2.1.length ≤ l.length := by
  unfold unpackR
  split
  · exact ⟨fun y hy => (by cases hy), Nat.zero_le _⟩
  · split
    · exact ⟨fun y hy => (by cases hy), Nat.zero_le _⟩
    · dsimp only
      split
      · exact ⟨hu.drop _, by rw [List.length_drop]; omega⟩
      · exact ⟨fun y hy => (by cases hy), Nat.zero_le _⟩
theorem lookR_rest (b : List Int) (hu : U8 b) : U8 (lookR b).2.2.2.1 ∧ ((lookR b).2.2.2.2 = 0 → (lookR b).2.2.2.1.length < b.length) ∧ (lookR b).2.2.2.1.length ≤ b.length := by
  unfold lookR
  split
  · exact ⟨fun y hy => (by cases hy), fun h => (by cases h), Nat.zero_le _⟩
  · exact ⟨hu.drop _, fun _ => by rw [List.length_drop]; omega, by rw [List.length_drop]; omega⟩
theorem takeR_rest (b : List Int) (s : Bool) (hu : U8 b) : U8 (takeR b s).2.2.1 ∧ ((takeR b s).2.2.2 = 0 → (takeR b s).2.2.1.length < b.length) ∧ 0 ≤ (takeR b s).2.1 ∧ (takeR b s).2.1 ≤ 10 := by
  unfold takeR
  split
  · exact ⟨fun y hy => (by cases hy), fun h => (by cases h), by simp⟩
  · rename_i c r
    have hc := hu c List.mem_cons_self
    split
    · exact ⟨fun y hy => (by cases hy), fun h => (by cases h), by simp⟩
    · split
      · exact ⟨fun y hy => (by cases hy), fun h => (by cases h), by simp⟩
      · split
        · exact ⟨fun y hy => (by cases hy), fun h => (by cases h), by simp⟩
        · refine ⟨fun y hy => hu y (List.mem_cons_of_mem _ (List.mem_of_mem_drop hy)), fun _ => ?_, by dsimp only; omega⟩
          dsimp only
          rw [List.length_drop, List.length_cons]; omega
theorem takeD_rest (b : List Int) (s : Bool) (hu : U8 b) : U8 (takeD b s).2.1 ∧ ((takeD b s).2.2 = 0 → (takeD b s).2.1.length < b.length) := by
  have h1 := lookR_rest b hu
  have h2 := unpackR_rest (lookR b).2.2.2.1 (lookR b).2.2.1 (wOf (lookR b).2.1) h1.1
  unfold takeD
  split
  · exact ⟨fun y hy => (by cases hy), fun h => by cases h⟩
  · rename_i h3
    split
    · exact ⟨fun y hy => (by cases hy), fun h => by cases h⟩
    · split
      · exact ⟨fun y hy => (by cases hy), fun h => by cases h⟩
      · refine ⟨h2.1, fun _ => ?_⟩
        have := h1.2.1 (Decidable.not_not.1 (fun h => h3 (.inl h)))
        dsimp only
        omega
theorem finDe_rest (x : Int) (r : List Int) (o : Option (List Int)) (hu : U8 r) : U8 (finDe x r o).2.1 ∧ (finDe x r o).2.1.length ≤ r.length := by
  cases o
  · exact ⟨fun y hy => (by cases hy), Nat.zero_le _⟩
  · exact ⟨hu, Nat.le_refl _⟩
theorem takeDe_rest (b : List Int) (s : Bool) (hu : U8 b) : U8 (takeDe b s).2.1 ∧ ((takeDe b s).2.2 = 0 → (takeDe b s).2.1.length < b.length) := by
  have h1 := lookR_rest b hu
  have h2 := (takeI_u8 (lookR b).2.2.2.1 s h1.1).1
  have l2 := takeI_len (lookR b).2.2.2.1 s
  have h3 := (takeI_u8 (takeI (lookR b).2.2.2.1 s).2.1 true h2).1
  have l3 := takeI_len (takeI (lookR b).2.2.2.1 s).2.1 true
  have h4 := unpackR_rest (takeI (takeI (lookR b).2.2.2.1 s).2.1 true).2.1 ((lookR b).2.2.1 - 2) (wOf (lookR b).2.1) h3
  unfold takeDe
  split
  · exact ⟨fun y hy => (by cases hy), fun h => by cases h⟩
  · rename_i h5
    split
    · exact ⟨fun y hy => (by cases hy), fun h => by cases h⟩
    · split
      · exact ⟨fun y hy => (by cases hy), fun h => by cases h⟩
      · split
        · exact ⟨fun y hy => (by cases hy), fun h => by cases h⟩
        · split
          · exact ⟨fun y hy => (by cases hy), fun h => by cases h⟩
          · have h6 := h1.2.1 (Decidable.not_not.1 (fun h => h5 (.inl h)))
            have key : ∀ r : List Int, U8 r → r.length ≤ (takeI (takeI (lookR b).2.2.2.1 s).2.1 true).2.1.length → ∀ x o, U8 (finDe x r o).2.1 ∧ ((finDe x r o).2.2 = 0 → (finDe x r o).2.1.length < b.length) := by
              intro r hr hl x o
              have h7 := finDe_rest x r o hr
              exact ⟨h7.1, fun _ => by omega⟩
            split
            · exact key _ h4.1 h4.2 _ _
            · exact key _ h3 (Nat.le_refl _) _ _
theorem takePa_rest (b : List Int) (s : Bool) (hu : U8 b) : U8 (takePa b s).2.1 ∧ ((takePa b s).2.2 = 0 → (takePa b s).2.1.length < b.length) := by
  unfold takePa
  split
  · exact ⟨fun y hy => (by cases hy), fun h => by cases h⟩
  · rename_i h0
    have hb : ¬ b.length < 4 := fun h => h0 (.inr (.inr h))
    unfold takeP2
    split
    · exact ⟨fun y hy => (by cases hy), fun h => by cases h⟩
    · have hd := (hu.drop 4).drop (b.getD 2 0 / 32 + 1).toNat
      have hdl : ((b.drop 4).drop (b.getD 2 0 / 32 + 1).toNat).length < b.length := by rw [List.length_drop, List.length_drop]; omega
      obtain ⟨d, hde⟩ : ∃ d, d = (b.drop 4).drop (b.getD 2 0 / 32 + 1).toNat := ⟨_, rfl⟩
      rw [← hde] at hd hdl ⊢
      have h1 := unpackR_rest d (lookR b).2.2.1 ((wOf (lookR b).2.1).toNat : Int) hd
      generalize unpackR d (lookR b).2.2.1 ((wOf (lookR b).2.1).toNat : Int) = u1 at *
      unfold takeP2b
      split
      · exact ⟨fun y hy => (by cases hy), fun h => by cases h⟩
      · have h2 := fun m x => unpackR_rest u1.2.1 m x h1.1
        unfold takeP3
        split
        · exact ⟨fun y hy => (by cases hy), fun h => by cases h⟩
        · unfold takeP4
          split
          · exact ⟨fun y hy => (by cases hy), fun h => by cases h⟩
          · split
            · refine ⟨(h2 _ _).1, fun _ => ?_⟩
              have := (h2 (b.getD 3 0 % 32) (wClosest (((b.getD 3 0 / 32 + 1).toNat : Int) + (wOf (b.getD 2 0 % 32)).toNat))).2
              dsimp only
              omega
            · exact ⟨fun y hy => (by cases hy), fun h => by cases h⟩

/-- The run that bytes begin with. -/
def oneR (b : List Int) (s : Bool) : List Int × List Int × Int :=
  if b.length = 0 then ([], [], 2)
  else if b.getD 0 0 / 64 = 0 then (List.replicate (takeR b s).2.1.toNat (takeR b s).1, (takeR b s).2.2.1, (takeR b s).2.2.2)
  else if b.getD 0 0 / 64 = 1 then takeD b s
  else if b.getD 0 0 / 64 = 2 then takePa b s
  else takeDe b s
theorem one_rest (b : List Int) (s : Bool) (hu : U8 b) : U8 (oneR b s).2.1 ∧ ((oneR b s).2.2 = 0 → (oneR b s).2.1.length < b.length) := by
  unfold oneR
  split
  · exact ⟨fun y hy => (by cases hy), fun h => by cases h⟩
  · split
    · have := takeR_rest b s hu
      exact ⟨this.1, this.2.1⟩
    · split
      · exact takeD_rest b s hu
      · split
        · exact takePa_rest b s hu
        · exact takeDe_rest b s hu
/-- So many numbers are taken, run behind run. -/
def takeF (s : Bool) (many : Nat) : Nat → List Int → List Int → List Int × List Int × Int
  | 0, _, _ => ([], [], 2)
  | f + 1, out, b => if many ≤ out.length then (out, b, 0)
    else if (oneR b s).2.2 ≠ 0 ∨ many < out.length + (oneR b s).1.length then ([], [], 2)
    else takeF s many f (out ++ (oneR b s).1) (oneR b s).2.1
def takeGl (b : List Int) (many : Int) (s : Bool) : List Int × List Int × Int :=
  if many < 0 ∨ 4096 < many then ([], [], 1) else takeF s many.toNat (b.length + 1) [] b
end Go.Proofs.YtmejoococajikaaGreat

/- rle.one and its reference. -/
namespace Go.Proofs.YtmejoococajikaaGreat
open Go.RowKit

theorem getD_u8o {l : List Int} (h : U8 l) (i : Nat) : 0 ≤ l.getD i 0 ∧ l.getD i 0 < 256 := by
  rcases Nat.lt_or_ge i l.length with h1 | h1
  · exact h _ (by simp [List.getD, List.getElem?_eq_getElem h1])
  · rw [show l.getD i 0 = 0 from by simp [List.getD, List.getElem?_eq_none h1]]; omega

set_option maxRecDepth 100000 in
set_option maxHeartbeats 1000000 in
theorem one_any (w : World) (A : Option Addr) (n cap : Nat) (b : List Int) (hr : Ri w .u8 A n b) (hu : U8 b) (hc : n ≤ cap) (hm : cap ≤ 9223372036854775807) (hn : n ≤ 100000) (s : Bool) (l r : List Int) (er : Int) (hl : oneR b s = (l, r, er)) :
    Calls Tryz.prog 107 #[.slice A n cap, .bool s] w (TakeOutD w l r er) := by
  have HR := Lib.hid hr; have HU := Lib.hid hu; have HN := Lib.hid hr.len
  clear hr hu
  unfold oneR at hl
  rw [HN.out] at hl
  by_cases h0 : n = 0
  · rw [if_pos h0] at hl
    injection hl with e1 e2; injection e2 with e2 e3
    subst e1 e2 e3 h0
    go_enter Tryz.func107, Tryz.ntmps107
    go_wp2_with fail
    refine bodyPost_ret (results_tmp3 rfl _ _ _) rfl ?_
    exact ⟨none, 0, 0, none, 0, 0, rfl, Sl.nil _ _, Sl.nil _ _, Below.refl _ _⟩
  · rw [if_neg h0] at hl
    obtain ⟨bb, oo, hA, hbl, hcells⟩ := HR.out.all (by omega)
    subst hA
    have g0 := hcells 0 (by omega)
    rw [Nat.add_zero] at g0
    have hx0 := getD_u8o HU.out 0
    obtain ⟨x, hx⟩ : ∃ x : Nat, (x : Int) = b.getD 0 0 := ⟨(b.getD 0 0).toNat, by omega⟩
    rw [← hx] at g0 hx0 hl
    clear hcells hx
    by_cases c0 : x < 64
    · rw [if_pos (by omega)] at hl
      obtain ⟨y, t, r1, e1, hT⟩ : ∃ y t r1 e1, takeR b s = (y, t, r1, e1) := ⟨_, _, _, _, rfl⟩
      have hrest := takeR_rest b s HU.out
      rw [hT] at hl hrest
      injection hl with e2 e3; injection e3 with e3 e4
      subst e2 e3 e4
      obtain ⟨T, rfl⟩ := Int.eq_ofNat_of_zero_le hrest.2.2.1
      have hT1 := hrest.2.2.2
      dsimp only at hT1 ⊢
      rw [Int.toNat_natCast]
      have HT := Lib.hid hT
      clear hT hrest
      go_enter Tryz.func107, Tryz.ntmps107
      go_wp2_with fail
      refine (Take_any _ _ _ b s _ HR.out HU.out hc hm (by omega) y T r1 e1 HT.out).mono ?_; rintro e2 w1 ⟨G1, n1, c1, rfl, hs1, hb1⟩
      have HS1 := Lib.hid hs1; have HB1 := Lib.hid hb1
      clear hs1 hb1
      go_wp2_with fail
      by_cases hT0 : T = 0
      · subst hT0
        refine (RepeatI_none _ _ _ y (Rd.one _ _ _)).mono ?_; rintro e2 w2 ⟨G2, n2, c2, rfl, hs2, hb2⟩
        go_wp2_with fail
        refine bodyPost_ret (results_tmp3 rfl _ _ _) rfl ?_
        exact ⟨_, _, _, _, _, _, rfl, hs2, (HS1.out.below ((Below.refl _ _).alloc (Nat.le_refl _) _)).below hb2, on (HB1.out.alloc HB1.out.size _) hb2⟩
      · refine (RepeatI_any _ _ _ y (Rd.one _ _ _) T (by omega) (by omega)).mono ?_; rintro e2 w2 ⟨G2, n2, c2, rfl, hs2, hb2⟩
        go_wp2_with fail
        refine bodyPost_ret (results_tmp3 rfl _ _ _) rfl ?_
        exact ⟨_, _, _, _, _, _, rfl, hs2, (HS1.out.below ((Below.refl _ _).alloc (Nat.le_refl _) _)).below hb2, on (HB1.out.alloc HB1.out.size _) hb2⟩
    · rw [if_neg (by omega)] at hl
      by_cases c1 : x < 128
      · rw [if_pos (by omega)] at hl
        have HL := Lib.hid hl
        clear hl
        go_enter Tryz.func107, Tryz.ntmps107
        go_wp2_with fail
        refine (DTake_any _ _ _ _ b HR.out HU.out hc hm (by omega) s l r er HL.out).mono ?_; rintro e2 w1 ⟨G1, n1, c1, G2, n2, c2, rfl, h1, h2, hb1⟩
        go_wp2_with fail
        refine bodyPost_ret (results_tmp3 rfl _ _ _) rfl ?_
        exact ⟨_, _, _, _, _, _, rfl, h1, h2, hb1⟩
      · rw [if_neg (by omega)] at hl
        by_cases c2 : x < 192
        · rw [if_pos (by omega)] at hl
          have HL := Lib.hid hl
          clear hl
          go_enter Tryz.func107, Tryz.ntmps107
          go_wp2_with fail
          refine (PTake_any _ _ _ _ b HR.out HU.out hc hm (by omega) s l r er HL.out).mono ?_; rintro e2 w1 ⟨G1, n1, c1, G2, n2, c2, rfl, h1, h2, hb1⟩
          go_wp2_with fail
          refine bodyPost_ret (results_tmp3 rfl _ _ _) rfl ?_
          exact ⟨_, _, _, _, _, _, rfl, h1, h2, hb1⟩
        · rw [if_neg (by omega)] at hl
          have HL := Lib.hid hl
          clear hl
          go_enter Tryz.func107, Tryz.ntmps107
          go_wp2_with fail
          refine (DeTake_any _ _ _ _ b HR.out HU.out hc hm (by omega) s l r er HL.out).mono ?_; rintro e2 w1 ⟨G1, n1, c1, G2, n2, c2, rfl, h1, h2, hb1⟩
          go_wp2_with fail
          refine bodyPost_ret (results_tmp3 rfl _ _ _) rfl ?_
          exact ⟨_, _, _, _, _, _, rfl, h1, h2, hb1⟩

set_option maxRecDepth 100000 in
set_option maxHeartbeats 1000000 in
theorem refOne_any (w : World) (A : Option Addr) (n cap : Nat) (b : List Int) (hr : Ri w .u8 A n b) (hu : U8 b) (hc : n ≤ cap) (hm : cap ≤ 9223372036854775807) (hn : n ≤ 100000) (s : Bool) (l r : List Int) (er : Int) (hl : oneR b s = (l, r, er)) :
    Calls Tryz.prog 50 #[.slice A n cap, .bool s] w (TakeOutD w l r er) := by
  have HR := Lib.hid hr; have HU := Lib.hid hu; have HN := Lib.hid hr.len
  clear hr hu
  unfold oneR at hl
  rw [HN.out] at hl
  by_cases h0 : n = 0
  · rw [if_pos h0] at hl
    injection hl with e1 e2; injection e2 with e2 e3
    subst e1 e2 e3 h0
    go_enter Tryz.func50, Tryz.ntmps50
    go_wp2_with fail
    refine bodyPost_ret (results_tmp3 rfl _ _ _) rfl ?_
    exact ⟨none, 0, 0, none, 0, 0, rfl, Sl.nil _ _, Sl.nil _ _, Below.refl _ _⟩
  · rw [if_neg h0] at hl
    obtain ⟨bb, oo, hA, hbl, hcells⟩ := HR.out.all (by omega)
    subst hA
    have g0 := hcells 0 (by omega)
    rw [Nat.add_zero] at g0
    have hx0 := getD_u8o HU.out 0
    obtain ⟨x, hx⟩ : ∃ x : Nat, (x : Int) = b.getD 0 0 := ⟨(b.getD 0 0).toNat, by omega⟩
    rw [← hx] at g0 hx0 hl
    clear hcells hx
    by_cases c0 : x < 64
    · rw [if_pos (by omega)] at hl
      obtain ⟨y, t, r1, e1, hT⟩ : ∃ y t r1 e1, takeR b s = (y, t, r1, e1) := ⟨_, _, _, _, rfl⟩
      have hrest := takeR_rest b s HU.out
      rw [hT] at hl hrest
      injection hl with e2 e3; injection e3 with e3 e4
      subst e2 e3 e4
      obtain ⟨T, rfl⟩ := Int.eq_ofNat_of_zero_le hrest.2.2.1
      have hT1 := hrest.2.2.2
      dsimp only at hT1 ⊢
      rw [Int.toNat_natCast]
      have HT := Lib.hid hT
      clear hT hrest
      go_enter Tryz.func50, Tryz.ntmps50
      go_wp2_with fail
      refine (refTake_any _ _ _ b s _ HR.out HU.out hc hm (by omega) y T r1 e1 HT.out).mono ?_; rintro e2 w1 ⟨G1, n1, c1, rfl, hs1, hb1⟩
      have HS1 := Lib.hid hs1; have HB1 := Lib.hid hb1
      clear hs1 hb1
      go_wp2_with fail
      go_loopw [11, 12] (fun v i wr => ∃ j : Nat, j ≤ T ∧ i = .int .i64 j ∧ Hid (wr.ownsRow w1.heap.size 3 1 v j ((List.replicate j y).map (Value.int .i64))) ∧ Hid (Below w1.heap.size w1 wr)) (fun _ i _ => T - (intOf i).toNat)
      case atStart => exact ⟨0, by omega, rfl, own_empty w1 _ 1, (Below.refl _ _).alloc (Nat.le_refl _) _⟩
      case round =>
        obtain ⟨j, hj, rfl, ho, hb⟩ := hrel
        obtain ⟨G, c, rfl⟩ := own_form ho.out
        have hz := hb.out.size
        by_cases hlt : j < T
        · have HO1 := Lib.hid (own_below ho.out ((Below.refl wr.heap.size wr).alloc (Nat.le_refl _) (.cells #[.int .i64 y] 3)))
          go_wp2_with (at_builtin; refine wpList_i64 _ rfl _ _ rfl w1.heap.size _ j (List.replicate j y) rfl HO1.out _ 1 1 [y] rfl (Rd.one _ _ _) (by omega) (by simp; omega) ?_; intro G3 c3 w3 hown hgr hcc)
          have hnb := below_of_grown (hb.out.alloc hz _) hgr (by simp; omega) (fun k hk => (HO1.out.lt k hk).1)
          rw [← List.replicate_succ'] at hown
          have HOWN := Lib.hid hown; have HNB := Lib.hid hnb
          clear hown hgr hnb
          go_wp2_with fail
          go_roundw
          case rel => exact ⟨j + 1, by omega, by go_num, HOWN, HNB⟩
          case measure => simp [intOf] <;> omega
        · obtain rfl : j = T := by omega
          go_wp2_with fail
          refine bodyPost_ret (results_tmp3 rfl _ _ _) rfl ?_
          exact ⟨_, _, _, _, _, _, rfl, Sl.of_own ho.out, HS1.out.below hb.out, on HB1.out hb.out⟩
    · rw [if_neg (by omega)] at hl
      by_cases c1 : x < 128
      · rw [if_pos (by omega)] at hl
        have HL := Lib.hid hl
        clear hl
        go_enter Tryz.func50, Tryz.ntmps50
        go_wp2_with fail
        refine (refDTake_any _ _ _ _ b HR.out HU.out hc hm (by omega) s l r er HL.out).mono ?_; rintro e2 w1 ⟨G1, n1, c1, G2, n2, c2, rfl, h1, h2, hb1⟩
        go_wp2_with fail
        refine bodyPost_ret (results_tmp3 rfl _ _ _) rfl ?_
        exact ⟨_, _, _, _, _, _, rfl, h1, h2, hb1⟩
      · rw [if_neg (by omega)] at hl
        by_cases c2 : x < 192
        · rw [if_pos (by omega)] at hl
          have HL := Lib.hid hl
          clear hl
          go_enter Tryz.func50, Tryz.ntmps50
          go_wp2_with fail
          refine (refPTake_any _ _ _ _ b HR.out HU.out hc hm (by omega) s l r er HL.out).mono ?_; rintro e2 w1 ⟨G1, n1, c1, G2, n2, c2, rfl, h1, h2, hb1⟩
          go_wp2_with fail
          refine bodyPost_ret (results_tmp3 rfl _ _ _) rfl ?_
          exact ⟨_, _, _, _, _, _, rfl, h1, h2, hb1⟩
        · rw [if_neg (by omega)] at hl
          have HL := Lib.hid hl
          clear hl
          go_enter Tryz.func50, Tryz.ntmps50
          go_wp2_with fail
          refine (refDeTake_any _ _ _ _ b HR.out HU.out hc hm (by omega) s l r er HL.out).mono ?_; rintro e2 w1 ⟨G1, n1, c1, G2, n2, c2, rfl, h1, h2, hb1⟩
          go_wp2_with fail
          refine bodyPost_ret (results_tmp3 rfl _ _ _) rfl ?_
          exact ⟨_, _, _, _, _, _, rfl, h1, h2, hb1⟩
end Go.Proofs.YtmejoococajikaaGreat

/- Rle: plain law: runs that were laid down are taken as they were. -/
namespace Go.Proofs.YtmejoococajikaaGreat
open Go.RowKit

theorem keep_cases (l : List Int) (s : Bool) (hk : l.all (keepB s) = true) : s = true ∨ ∀ y ∈ l, 0 ≤ y := by
  cases s
  · right
    intro y hy
    have := List.all_eq_true.1 hk y hy
    simpa [keepB] using this
  · exact .inl rfl
theorem steps_backS (l : List Int) (hu : I64 l) (s : Bool) (hs : s = true ∨ ∀ y ∈ l, 0 ≤ y) (m : Nat) (hm : m + 1 = l.length) (hok : okD l m = true) : ∀ k j : Nat, j + k = m → stepsDe (decide (dAt l 0 < 0)) s (l.getD j 0) ((dsz l m).drop j) = some (l.drop (j + 1)) := by
  intro k
  induction k with
  | zero =>
    intro j hj
    rw [List.drop_eq_nil_of_le (by rw [dsz_len]; omega), List.drop_eq_nil_of_le (by omega), stepsDe_nil]
  | succ k ih =>
    intro j hj
    have hd : (dsz l m).getD j 0 = absI (dAt l j) := by
      simp [dsz, List.getD, List.getElem?_map, List.getElem?_range (show j < m by omega)]
    have hoj := List.all_eq_true.1 hok j (List.mem_range.2 (by omega))
    unfold okAt at hoj
    simp only [Bool.and_eq_true, decide_eq_true_eq, Bool.or_eq_true, beq_iff_eq] at hoj
    have hs1 : l.getD j 0 + dAt l j = l.getD (j + 1) 0 := by unfold dAt; omega
    have hst := stepR_back (l.getD j 0) (dAt l j) (decide (dAt l 0 < 0)) (getD_i64x hu j) (by rw [hs1]; exact getD_i64x hu (j + 1)) hoj.1 hoj.2
    rw [hs1] at hst
    have hs2 : s = true ∨ 0 ≤ l.getD (j + 1) 0 := by
      rcases hs with hs | hs
      · exact .inl hs
      · right
        rw [List.getD, List.getElem?_eq_getElem (show j + 1 < l.length by omega), Option.getD_some]
        exact hs _ (List.getElem_mem _)
    rw [drop_cons _ j (by rw [dsz_len]; omega), hd]
    simp only [stepsDe]
    rw [hst, if_pos ⟨rfl, hs2⟩]
    dsimp only
    rw [ih (j + 1) (by omega), drop_cons l (j + 1) (by omega)]
    rfl
theorem de_backS (l : List Int) (hu : I64 l) (s : Bool) (r : List Int) (hr : putDe l s = (r, 0)) : U8 r ∧ ∀ q, takeDe (r ++ q) s = (l, q, 0) := by
  have hbd : ¬ badDe l s := by
    intro h
    unfold putDe at hr
    rw [if_pos h] at hr
    injection hr with _ h1
    cases h1
  have hb2 := hbd
  unfold badDe at hb2
  have h2 : 2 ≤ l.length := Nat.le_of_not_lt fun h => hb2 (.inl h)
  have h5 : l.length ≤ 512 := Nat.le_of_not_lt fun h => hb2 (.inr (.inl h))
  have hok : okD l (l.length - 1) = true := by
    rcases Bool.eq_false_or_eq_true (okD l (l.length - 1)) with h | h
    · exact h
    · exact absurd (.inr (.inr (.inr h))) hb2
  have hs : s = true ∨ ∀ y ∈ l, 0 ≤ y := by
    cases s
    · right
      intro y hy
      rcases Int.lt_or_le y 0 with h | h
      · exact absurd (.inr (.inr (.inl ⟨rfl, List.any_eq_true.2 ⟨y, hy, decide_eq_true h⟩⟩))) hb2
      · exact h
    · exact .inl rfl
  unfold putDe at hr
  rw [if_neg hbd] at hr
  injection hr with hr _
  have hd0 := dAt0_range l (l.length - 1) (by omega) hok
  have hx0 := getD_i64x hu 0
  have h0 : s = true ∨ 0 ≤ l.getD 0 0 := by
    rcases hs with hs | hs
    · exact .inl hs
    · right
      rw [List.getD, List.getElem?_eq_getElem (show 0 < l.length by omega), Option.getD_some]
      exact hs _ (List.getElem_mem _)
  have hsteps := steps_backS l hu s hs (l.length - 1) (by omega) hok (l.length - 1) 0 (by omega)
  rw [List.drop_zero] at hsteps
  have hl : l.getD 0 0 :: l.drop (0 + 1) = l := by rw [← drop_cons l 0 (by omega), List.drop_zero]
  have hdiff : diffR 0 (dAt l 0) = (absI (dAt l 0), decide (dAt l 0 < 0), true) := by
    rw [diffR_eq, Int.sub_zero, if_neg (by omega)]
  have hv1 : U8 (vput (unsN (l.getD 0 0) s)) := vput_u8 9 _ (by have := unsN_lt (l.getD 0 0) s hx0; omega)
  have hv2 : U8 (vput (unsN (dAt l 0) true)) := vput_u8 9 _ (by have := unsN_lt (dAt l 0) true hd0.1; omega)
  have happ : ∀ a b : List Int, U8 a → U8 b → U8 (a ++ b) := fun a b ha hb y hy => by
    rcases List.mem_append.1 hy with h | h
    · exact ha y h
    · exact hb y h
  cases hsm : sameD l (l.length - 1)
  · have htd : tailDe l = (dsz l (l.length - 1)).drop 1 := by unfold tailDe; rw [hsm]; rfl
    have hwd : widthDe l = wClosest (max 2 (mostBits ((dsz l (l.length - 1)).drop 1) : Int)) := by unfold widthDe; rw [hsm]; rfl
    have hcd : codeDe l = wCode (widthDe l) := by unfold codeDe; rw [hsm]; rfl
    have hut := tail_u64 l (l.length - 1) hok
    obtain ⟨K, hkw, hk2, hk64, hroom⟩ := most2_room _ hut
    have hmm := mostBits_le _ hut
    have hcl := wOf_closest (max 2 (mostBits ((dsz l (l.length - 1)).drop 1) : Int)) (by omega) (by omega)
    rw [hkw] at hwd hcl
    have htl : ((dsz l (l.length - 1)).drop 1).length = l.length - 2 := by rw [List.length_drop, dsz_len]; omega
    obtain ⟨p0, hp0, hp08, _, _⟩ := pack_back ((dsz l (l.length - 1)).drop 1) [] K hk64 (by omega) hut hroom
    rw [hcd, hwd, htd, hp0] at hr
    dsimp only at hr
    subst hr
    refine ⟨happ _ _ (happ _ _ (happ _ _ (head_u8 _ _ _).1 hv1) hv2) hp08, fun q => ?_⟩
    obtain ⟨p, hp1, hp2, hp3, hp4⟩ := pack_back ((dsz l (l.length - 1)).drop 1) q K hk64 (by omega) hut hroom
    obtain rfl : p0 = p := (Prod.mk.inj (hp0.symm.trans hp1)).1
    rw [List.append_assoc, List.append_assoc, List.append_assoc]
    rw [takeDe_eq (look_head (wCode K) l.length _ (by omega) (by omega) 3 (by omega)) (takeI_put _ s hx0 h0 _) (takeI_put _ true hd0.1 (.inl rfl) _) hdiff
      (show unpackR (p0 ++ q) ((l.length : Int) - 2) (wOf (wCode K)) = ((dsz l (l.length - 1)).drop 1, q, 0) from by rw [hcl.2.2, show ((l.length : Int) - 2) = (((dsz l (l.length - 1)).drop 1).length : Int) from by rw [htl]; omega]; exact hp4)]
    rw [if_neg (by omega), if_neg (by simp), if_neg (by simp), if_neg (by simp), if_neg (by simp), if_pos hcl.1, if_pos hcl.1]
    have hz : absI (dAt l 0) :: (dsz l (l.length - 1)).drop 1 = dsz l (l.length - 1) := by
      have h := drop_cons (dsz l (l.length - 1)) 0 (by rw [dsz_len]; omega)
      rw [List.drop_zero] at h
      rw [h]
      simp [dsz, List.getD, List.getElem?_map, List.getElem?_range (show 0 < l.length - 1 by omega)]
    rw [hz, hsteps]
    simp only [finDe]
    rw [hl]
  · have htd : tailDe l = [] := by unfold tailDe; rw [hsm]; rfl
    have hwd : widthDe l = 0 := by unfold widthDe; rw [hsm]; rfl
    have hcd : codeDe l = 0 := by unfold codeDe; rw [hsm]; rfl
    rw [hcd, hwd, htd, show (packR [] 0).1 = [] from rfl, List.append_nil] at hr
    subst hr
    refine ⟨happ _ _ (happ _ _ (head_u8 _ _ _).1 hv1) hv2, fun q => ?_⟩
    rw [List.append_assoc, List.append_assoc]
    obtain ⟨L, r3, e3, h5'⟩ : ∃ L r3 e3, unpackR q ((l.length : Int) - 2) (wOf 0) = (L, r3, e3) := ⟨_, _, _, rfl⟩
    rw [takeDe_eq (look_head 0 l.length _ (by omega) (by omega) 3 (by omega)) (takeI_put _ s hx0 h0 _) (takeI_put _ true hd0.1 (.inl rfl) _) hdiff h5']
    rw [if_neg (by omega), if_neg (by simp), if_neg (by simp), if_neg (by simp), if_neg (by simp), if_neg (by omega), if_neg (by omega), show ((l.length : Int) - 1).toNat = l.length - 1 from by omega, same_rep l _ hsm, hsteps]
    simp only [finDe]
    rw [hl]

/-- The kind stands in the first byte. -/
theorem look_kind (b : List Int) (hu : U8 b) (h : (lookR b).2.2.2.2 = 0) : (lookR b).1 = b.getD 0 0 / 64 ∧ 2 ≤ b.length := by
  unfold lookR at h ⊢
  split
  · rename_i h1; rw [if_pos h1] at h; cases h
  · rename_i h1
    have h2 : 0 ≤ b.getD 1 0 ∧ b.getD 1 0 < 256 := by
      rw [List.getD, List.getElem?_eq_getElem (show 1 < b.length by omega), Option.getD_some]
      exact hu _ (List.getElem_mem _)
    exact ⟨by dsimp only; omega, by omega⟩
theorem kindDe (b : List Int) (s : Bool) (hu : U8 b) (h : (takeDe b s).2.2 = 0) : b.getD 0 0 / 64 = 3 ∧ 2 ≤ b.length := by
  unfold takeDe at h
  split at h
  · cases h
  · rename_i h1
    have h2 := look_kind b hu (Decidable.not_not.1 fun h => h1 (.inl h))
    have h3 : (lookR b).1 = 3 := Decidable.not_not.1 fun h => h1 (.inr (.inl h))
    omega
theorem kindD (b : List Int) (s : Bool) (hu : U8 b) (h : (takeD b s).2.2 = 0) : b.getD 0 0 / 64 = 1 ∧ 2 ≤ b.length := by
  unfold takeD at h
  split at h
  · cases h
  · rename_i h1
    have h2 := look_kind b hu (Decidable.not_not.1 fun h => h1 (.inl h))
    have h3 : (lookR b).1 = 1 := Decidable.not_not.1 fun h => h1 (.inr h)
    omega
theorem kindPa (b : List Int) (s : Bool) (hu : U8 b) (h : (takePa b s).2.2 = 0) : b.getD 0 0 / 64 = 2 ∧ 2 ≤ b.length := by
  unfold takePa at h
  split at h
  · cases h
  · rename_i h1
    have h2 := look_kind b hu (by unfold lookR; rw [if_neg (fun h => h1 (.inl h))])
    have h3 : (lookR b).1 = 2 := Decidable.not_not.1 fun h => h1 (.inr (.inl h))
    omega
theorem getD_app0 (p q : List Int) (h : 2 ≤ p.length) : (p ++ q).getD 0 0 = p.getD 0 0 ∧ (p ++ q).length ≠ 0 := by
  refine ⟨?_, by rw [List.length_append]; omega⟩
  rw [List.getD, List.getD, List.getElem?_append_left (by omega)]
theorem same_all (l : List Int) (h : sameL l = l.length) : List.replicate l.length (l.getD 0 0) = l := by
  apply List.ext_getElem (by simp)
  intro i h1 h2
  rw [List.getElem_replicate]
  have := sameL_all l i (by omega)
  rw [List.getD, List.getElem?_eq_getElem h2, Option.getD_some] at this
  exact this.symm
/-- What a kind lays down is taken as it was. -/
theorem cand_back (l : List Int) (hu : I64 l) (s : Bool) (hk : l.all (keepB s) = true) (h1 : 1 ≤ l.length) (h2 : l.length ≤ 512) (c : Nat) (r : List Int) (h : candR l s c = (r, 0)) :
    U8 r ∧ ∀ q, oneR (r ++ q) s = (l, q, 0) := by
  unfold candR at h
  split at h
  · unfold timesR at h
    split at h
    · rename_i hs
      have hr : ∃ ht : 3 ≤ (l.length : Int), (l.length : Int) ≤ 10 := by
        unfold putR at h
        split at h
        · injection h with _ h; cases h
        · rename_i h4; exact ⟨by omega, by omega⟩
      obtain ⟨ht1, ht2⟩ := hr
      have hx : s = false → 0 ≤ l.getD 0 0 := by
        intro e
        rcases keep_cases l s hk with h3 | h3
        · rw [e] at h3; cases h3
        · rw [List.getD, List.getElem?_eq_getElem (show 0 < l.length by omega), Option.getD_some]
          exact h3 _ (List.getElem_mem _)
      obtain ⟨p, hp, hp8, hp2, hp9, hpb, _⟩ := put_take (l.getD 0 0) l.length s ht1 ht2 (getD_i64x hu 0) hx
      obtain rfl : r = p := (Prod.mk.inj (h.symm.trans hp)).1
      refine ⟨hp8, fun q => ?_⟩
      have hg := getD_app0 r q hp2
      have hb := hpb q
      unfold oneR
      rw [if_neg hg.2, if_pos, hb]
      · dsimp only
        rw [Int.toNat_natCast, same_all l (by simpa using hs)]
      · unfold takeR at hb
        split at hb
        · injection hb with _ hb; injection hb with _ hb; injection hb with _ hb; cases hb
        · rename_i c1 r1 he
          split at hb
          · injection hb with _ hb; injection hb with _ hb; injection hb with _ hb; cases hb
          · rename_i hc1
            rw [he, List.getD_cons_zero]
            have : c1 = r.getD 0 0 := by
              have h5 : (r ++ q).getD 0 0 = c1 := by rw [he]; rfl
              rw [← h5, hg.1]
            have h6 : 0 ≤ r.getD 0 0 := by
              rw [List.getD, List.getElem?_eq_getElem (show 0 < r.length by omega), Option.getD_some]
              exact (hp8 _ (List.getElem_mem _)).1
            omega
    · injection h with _ h; cases h
  · split at h
    · obtain ⟨p, hp, hp8, _, hpb⟩ := putD_back l s hu hk h1 h2
      obtain rfl : r = p := (Prod.mk.inj (h.symm.trans hp)).1
      have hkd := kindD (r ++ []) s (by rw [List.append_nil]; exact hp8) (by rw [hpb [] ])
      rw [List.append_nil] at hkd
      refine ⟨hp8, fun q => ?_⟩
      have hg := getD_app0 r q hkd.2
      unfold oneR
      rw [if_neg hg.2, hg.1, if_neg (by omega), if_pos hkd.1]
      exact hpb q
    · split at h
      · obtain ⟨hp8, hpb⟩ := de_backS l hu s r h
        have hkd := kindDe (r ++ []) s (by rw [List.append_nil]; exact hp8) (by rw [hpb [] ])
        rw [List.append_nil] at hkd
        refine ⟨hp8, fun q => ?_⟩
        have hg := getD_app0 r q hkd.2
        unfold oneR
        rw [if_neg hg.2, hg.1, if_neg (by omega), if_neg (by omega), if_neg (by omega)]
        exact hpb q
      · rcases pa_put l (wOf ((c - 3 : Nat) : Int)) s with hp | ⟨hpre, hok⟩
        · rw [hp] at h; injection h with _ h; cases h
        · obtain ⟨p, hp, hp8, _, hpb⟩ := pa_back l hu (wOf ((c - 3 : Nat) : Int)) s hpre hok
          obtain rfl : r = p := (Prod.mk.inj (h.symm.trans hp)).1
          have hkd := kindPa (r ++ []) s (by rw [List.append_nil]; exact hp8) (by rw [hpb [] ])
          rw [List.append_nil] at hkd
          refine ⟨hp8, fun q => ?_⟩
          have hg := getD_app0 r q hkd.2
          unfold oneR
          rw [if_neg hg.2, hg.1, if_neg (by omega), if_neg (by omega), if_pos hkd.1]
          exact hpb q
theorem keep_run (l : List Int) (s : Bool) (hk : l.all (keepB s) = true) (h1 : 1 ≤ l.length) (h2 : l.length ≤ 512) : badRun l s = false := by
  unfold badRun
  rw [decide_eq_false (by omega), decide_eq_false (by omega), Bool.or_self, Bool.false_or]
  rcases keep_cases l s hk with rfl | h
  · rfl
  · have : (l.any fun y => decide (y < 0)) = false := by
      rw [List.any_eq_false]
      intro y hy
      have := h y hy
      simp; omega
    rw [this, Bool.and_false]
theorem all_part (l : List Int) (p : Int → Bool) (k : Nat) (h : l.all p = true) : (l.take k).all p = true ∧ (l.drop k).all p = true := by
  rw [List.all_eq_true] at h
  exact ⟨List.all_eq_true.2 fun x hx => h x (List.mem_of_mem_take hx), List.all_eq_true.2 fun x hx => h x (List.mem_of_mem_drop hx)⟩
theorem putF_back (s : Bool) : ∀ (n : Nat) (l : List Int), l.length ≤ n → I64 l → l.all (keepB s) = true → ∀ (f : Nat) (out : List Int), l.length < f →
    ∃ p, putF s f out l = (out ++ p, 0) ∧ U8 p ∧ p.length ≤ 10 * l.length ∧
      ∀ (many g : Nat) (outT r : List Int), many = outT.length + l.length → p.length + r.length < g → takeF s many g outT (p ++ r) = (outT ++ l, r, 0) := by
  intro n
  induction n with
  | zero =>
    intro l hl hu hk f out hf
    obtain rfl : l = [] := List.eq_nil_of_length_eq_zero (by omega)
    cases f with
    | zero => omega
    | succ f =>
      refine ⟨[], by rw [putF, List.append_nil]; exact if_pos rfl, fun y hy => (by cases hy), by simp, fun many g outT r hm hg => ?_⟩
      cases g with
      | zero => omega
      | succ g => rw [takeF, if_pos (by simp at hm; omega), List.nil_append, List.append_nil]
  | succ n ih =>
    intro l hl hu hk f out hf
    rcases Nat.eq_zero_or_pos l.length with h0 | h0
    · exact ih l (by omega) hu hk f out hf
    · cases f with
      | zero => omega
      | succ f =>
        have hc := cutL_range l h0
        obtain ⟨k, hkk⟩ : ∃ k, k = cutL l := ⟨_, rfl⟩
        rw [← hkk] at hc
        have hkt := all_part l (keepB s) k hk
        have hut : I64 (l.take k) := fun y hy => hu y (List.mem_of_mem_take hy)
        have hud : I64 (l.drop k) := fun y hy => hu y (List.mem_of_mem_drop hy)
        have hlt : (l.take k).length = k := by rw [List.length_take]; omega
        have hld : (l.drop k).length = l.length - k := List.length_drop
        obtain ⟨q, hq, hq2, hql, ⟨j, hj, hcand⟩, _⟩ := run_ok (l.take k) s hut (keep_run _ _ hkt.1 (by omega) (by omega))
        obtain ⟨hq8, hqb⟩ := cand_back (l.take k) hut s hkt.1 (by omega) (by omega) j q hcand
        obtain ⟨p, hp, hp8, hpl, hpb⟩ := ih (l.drop k) (by omega) hud hkt.2 f (out ++ q) (by omega)
        refine ⟨q ++ p, ?_, ?_, by rw [List.length_append]; omega, fun many g outT r hm hg => ?_⟩
        · rw [putF, if_neg (by omega), ← hkk, hq, if_neg (by simp)]
          dsimp only
          rw [hp, List.append_assoc]
        · intro y hy
          rcases List.mem_append.1 hy with h | h
          · exact hq8 y h
          · exact hp8 y h
        · rw [List.length_append] at hg
          cases g with
          | zero => omega
          | succ g =>
            rw [takeF, if_neg (by omega), List.append_assoc, hqb]
            dsimp only
            rw [if_neg (by rw [hlt]; omega), hpb many g (outT ++ l.take k) r (by rw [List.length_append, hlt, hld]; omega) (by omega), List.append_assoc, List.take_append_drop]
/-- Runs that were laid down are taken as they were. -/
theorem gl_back (l : List Int) (s : Bool) (hu : I64 l) (hk : l.all (keepB s) = true) (h : l.length ≤ 4096) :
    ∃ p, putGl l s = (p, 0) ∧ U8 p ∧ p.length ≤ 50000 ∧ ∀ r, takeGl (p ++ r) l.length s = (l, r, 0) := by
  obtain ⟨p, hp, hp8, hpl, hpb⟩ := putF_back s l.length l (Nat.le_refl _) hu hk (l.length + 1) [] (Nat.lt_succ_self _)
  refine ⟨p, ?_, hp8, by omega, fun r => ?_⟩
  · unfold putGl
    rw [if_neg (by omega), hp, List.nil_append]
  · unfold takeGl
    rw [if_neg (by omega), Int.toNat_natCast, hpb l.length _ [] r (by simp) (by rw [List.length_append]; omega), List.nil_append]
end Go.Proofs.YtmejoococajikaaGreat

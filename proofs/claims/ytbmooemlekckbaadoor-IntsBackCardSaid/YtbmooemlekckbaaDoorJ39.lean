/- Joined texts: PlainGt, RefDTakeA, RefUF, RefPTake, GlOne. Each has its own head line. No condition beyond those that its theorems state. -/
import Derived.Test.YtbmooemlekckbaaDoorJ20
import Derived.Test.YtbmooemlekckbaaDoorJ17
import Derived.Test.YtbmooemlekckbaaDoorJ22
import Derived.Test.YtbmooemlekckbaaDoorJ18
import Derived.Test.YtbmooemlekckbaaDoorJ23
import Derived.Test.YtbmooemlekckbaaDoorJ15
import Derived.Test.YtbmooemlekckbaaDoorJ38
import Derived.Test.YtbmooemlekckbaaDoorJ06
import Derived.Test.YtbmooemlekckbaaDoorJ33
import Derived.Test.YtbmooemlekckbaaDoorJ02
set_option linter.unusedVariables false

/- Rle: plain: runs are taken. -/
namespace Go.Proofs.YtbmooemlekckbaaDoor
open Go.RowKit

theorem unpackR_rest (l : List Int) (m x : Int) (hu : U8 l) : U8 (unpackR l m x).2.1 ∧ (unpackR l m x).2.1.length ≤ l.length := by
  unfold unpackR
  split
  · exact ⟨fun y hy => (by cases hy), Nat.zero_le _⟩
  · split
    · exact ⟨fun y hy => (by cases hy), Nat.zero_le _⟩
    · dsimp only
      split
      · exact ⟨hu.drop _, by rw [List.length_drop]; omega⟩
      · exact ⟨fun y hy => (by cases hy), Nat.zero_le _⟩
theorem lookR_rest (b : List Int) (hu : U8 b) : U8 (lookR b).2.2.2.1 ∧ ((lookR b).2.2.2.2 = 0 → (lookR b).2.2.2.1.length < b.length) ∧ (lookR b).2.2.2.1.length ≤ b.length := by
  unfold lookR
  split
  · exact ⟨fun y hy => (by cases hy), fun h => (by cases h), Nat.zero_le _⟩
  · exact ⟨hu.drop _, fun _ => by rw [List.length_drop]; omega, by rw [List.length_drop]; omega⟩
theorem takeR_rest (b : List Int) (s : Bool) (hu : U8 b) : U8 (takeR b s).2.2.1 ∧ ((takeR b s).2.2.2 = 0 → (takeR b s).2.2.1.length < b.length) ∧ 0 ≤ (takeR b s).2.1 ∧ (takeR b s).2.1 ≤ 10 := by
  unfold takeR
  split
  · exact ⟨fun y hy => (by cases hy), fun h => (by cases h), by simp⟩
  · rename_i c r
    have hc := hu c List.mem_cons_self
    split
    · exact ⟨fun y hy => (by cases hy), fun h => (by cases h), by simp⟩
    · split
      · exact ⟨fun y hy => (by cases hy), fun h => (by cases h), by simp⟩
      · split
        · exact ⟨fun y hy => (by cases hy), fun h => (by cases h), by simp⟩
        · refine ⟨fun y hy => hu y (List.mem_cons_of_mem _ (List.mem_of_mem_drop hy)), fun _ => ?_, by dsimp only; omega⟩
          dsimp only
          rw [List.length_drop, List.length_cons]; omega
theorem takeD_rest (b : List Int) (s : Bool) (hu : U8 b) : U8 (takeD b s).2.1 ∧ ((takeD b s).2.2 = 0 → (takeD b s).2.1.length < b.length) := by
  have h1 := lookR_rest b hu
  have h2 := unpackR_rest (lookR b).2.2.2.1 (lookR b).2.2.1 (wOf (lookR b).2.1) h1.1
  unfold takeD
  split
  · exact ⟨fun y hy => (by cases hy), fun h => by cases h⟩
  · rename_i h3
    split
    · exact ⟨fun y hy => (by cases hy), fun h => by cases h⟩
    · split
      · exact ⟨fun y hy => (by cases hy), fun h => by cases h⟩
      · refine ⟨h2.1, fun _ => ?_⟩
        have := h1.2.1 (Decidable.not_not.1 (fun h => h3 (.inl h)))
        dsimp only
        omega
theorem finDe_rest (x : Int) (r : List Int) (o : Option (List Int)) (hu : U8 r) : U8 (finDe x r o).2.1 ∧ (finDe x r o).2.1.length ≤ r.length := by
  cases o
  · exact ⟨fun y hy => (by cases hy), Nat.zero_le _⟩
  · exact ⟨hu, Nat.le_refl _⟩
theorem takeDe_rest (b : List Int) (s : Bool) (hu : U8 b) : U8 (takeDe b s).2.1 ∧ ((takeDe b s).2.2 = 0 → (takeDe b s).2.1.length < b.length) := by
  have h1 := lookR_rest b hu
  have h2 := (takeI_u8 (lookR b).2.2.2.1 s h1.1).1
  have l2 := takeI_len (lookR b).2.2.2.1 s
  have h3 := (takeI_u8 (takeI (lookR b).2.2.2.1 s).2.1 true h2).1
  have l3 := takeI_len (takeI (lookR b).2.2.2.1 s).2.1 true
  have h4 := unpackR_rest (takeI (takeI (lookR b).2.2.2.1 s).2.1 true).2.1 ((lookR b).2.2.1 - 2) (wOf (lookR b).2.1) h3
  unfold takeDe
  split
  · exact ⟨fun y hy => (by cases hy), fun h => by cases h⟩
  · rename_i h5
    split
    · exact ⟨fun y hy => (by cases hy), fun h => by cases h⟩
    · split
      · exact ⟨fun y hy => (by cases hy), fun h => by cases h⟩
      · split
        · exact ⟨fun y hy => (by cases hy), fun h => by cases h⟩
        · split
          · exact ⟨fun y hy => (by cases hy), fun h => by cases h⟩
          · have h6 := h1.2.1 (Decidable.not_not.1 (fun h => h5 (.inl h)))
            have key : ∀ r : List Int, U8 r → r.length ≤ (takeI (takeI (lookR b).2.2.2.1 s).2.1 true).2.1.length → ∀ x o, U8 (finDe x r o).2.1 ∧ ((finDe x r o).2.2 = 0 → (finDe x r o).2.1.length < b.length) := by
              intro r hr hl x o
              have h7 := finDe_rest x r o hr
              exact ⟨h7.1, fun _ => by omega⟩
            split
            · exact key _ h4.1 h4.2 _ _
            · exact key _ h3 (Nat.le_refl _) _ _
theorem takePa_rest (b : List Int) (s : Bool) (hu : U8 b) : U8 (takePa b s).2.1 ∧ ((takePa b s).2.2 = 0 → (takePa b s).2.1.length < b.length) := by
  unfold takePa
  split
  · exact ⟨fun y hy => (by cases hy), fun h => by cases h⟩
  · rename_i h0
    have hb : ¬ b.length < 4 := fun h => h0 (.inr (.inr h))
    unfold takeP2
    split
    · exact ⟨fun y hy => (by cases hy), fun h => by cases h⟩
    · have hd := (hu.drop 4).drop (b.getD 2 0 / 32 + 1).toNat
      have hdl : ((b.drop 4).drop (b.getD 2 0 / 32 + 1).toNat).length < b.length := by rw [List.length_drop, List.length_drop]; omega
      obtain ⟨d, hde⟩ : ∃ d, d = (b.drop 4).drop (b.getD 2 0 / 32 + 1).toNat := ⟨_, rfl⟩
      rw [← hde] at hd hdl ⊢
      have h1 := unpackR_rest d (lookR b).2.2.1 ((wOf (lookR b).2.1).toNat : Int) hd
      generalize unpackR d (lookR b).2.2.1 ((wOf (lookR b).2.1).toNat : Int) = u1 at *
      unfold takeP2b
      split
      · exact ⟨fun y hy => (by cases hy), fun h => by cases h⟩
      · have h2 := fun m x => unpackR_rest u1.2.1 m x h1.1
        unfold takeP3
        split
        · exact ⟨fun y hy => (by cases hy), fun h => by cases h⟩
        · unfold takeP4
          split
          · exact ⟨fun y hy => (by cases hy), fun h => by cases h⟩
          · split
            · refine ⟨(h2 _ _).1, fun _ => ?_⟩
              have := (h2 (b.getD 3 0 % 32) (wClosest (((b.getD 3 0 / 32 + 1).toNat : Int) + (wOf (b.getD 2 0 % 32)).toNat))).2
              dsimp only
              omega
            · exact ⟨fun y hy => (by cases hy), fun h => by cases h⟩

/-- The run that bytes begin with. -/
def oneR (b : List Int) (s : Bool) : List Int × List Int × Int :=
  if b.length = 0 then ([], [], 2)
  else if b.getD 0 0 / 64 = 0 then (List.replicate (takeR b s).2.1.toNat (takeR b s).1, (takeR b s).2.2.1, (takeR b s).2.2.2)
  else if b.getD 0 0 / 64 = 1 then takeD b s
  else if b.getD 0 0 / 64 = 2 then takePa b s
  else takeDe b s
theorem one_rest (b : List Int) (s : Bool) (hu : U8 b) : U8 (oneR b s).2.1 ∧ ((oneR b s).2.2 = 0 → (oneR b s).2.1.length < b.length) := by
  unfold oneR
  split
  · exact ⟨fun y hy => (by cases hy), fun h => by cases h⟩
  · split
    · have := takeR_rest b s hu
      exact ⟨this.1, this.2.1⟩
    · split
      · exact takeD_rest b s hu
      · split
        · exact takePa_rest b s hu
        · exact takeDe_rest b s hu
/-- So many numbers are taken, run behind run. -/
def takeF (s : Bool) (many : Nat) : Nat → List Int → List Int → List Int × List Int × Int
  | 0, _, _ => ([], [], 2)
  | f + 1, out, b => if many ≤ out.length then (out, b, 0)
    else if (oneR b s).2.2 ≠ 0 ∨ many < out.length + (oneR b s).1.length then ([], [], 2)
    else takeF s many f (out ++ (oneR b s).1) (oneR b s).2.1
def takeGl (b : List Int) (many : Int) (s : Bool) : List Int × List Int × Int :=
  if many < 0 ∨ 4096 < many then ([], [], 1) else takeF s many.toNat (b.length + 1) [] b
end Go.Proofs.YtbmooemlekckbaaDoor

/- The reference of delta.Take. -/
namespace Go.Proofs.YtbmooemlekckbaaDoor
open Go.RowKit

theorem sl_past_own {w w' : World} {A : Option Addr} {n c : Nat} {l : List Int} {B : Nat} {e : TypeId} {g : Nat} {x : Int} (h : Sl w .u8 A n c l) (ho : w.ownsRow B e 1 (.slice (some ⟨g, 0, none⟩) 1 1) 1 ([x].map (Value.int .u64)))
    (hg : w.grownBy w' (Value.slice (some ⟨g, 0, none⟩) 1 1).ownBlock) : Sl w' .u8 A n c l := by
  refine ⟨?_, h.2⟩
  rcases Nat.eq_zero_or_pos n with h0 | h0
  · exact ⟨by simpa using h.1.len, fun h1 => absurd h1 (by omega)⟩
  · refine h.1.grown hg (fun g' b o h1 h2 h3 => ?_)
    have h4 : g = g' := by simpa [Value.ownBlock] using h1
    subst h4 h3
    obtain ⟨b', o', e1, _, hc⟩ := h.1.all h0
    rw [h2] at e1
    injection e1 with e1; injection e1 with e2 e3
    subst e2 e3
    have h5 := hc 0 h0
    rcases ho.2 with ⟨h6, _⟩ | ⟨g2, cap, cur, hv, _, hh, _, _, hs, hp⟩
    · cases h6
    · injection hv with hv1 hv2 hv3
      injection hv1 with hv1; injection hv1 with hv4
      subst hv3 hv4
      rw [cell_of_row w g (o + 0) cur e (0, 0) hh, Nat.add_zero] at h5
      have ho0 : o = 0 := by
        have := (Array.getElem?_eq_some_iff.1 h5).1
        omega
      subst ho0
      have h7 := Ri.of_own ho
      have h8 := (h7.all (by omega))
      obtain ⟨b2, o2, e4, _, hc2⟩ := h8
      injection e4 with e4; injection e4 with e5 e6
      subst e5 e6
      have h9 := hc2 0 (by omega)
      rw [cell_of_row w g (0 + 0) cur e (0, 0) hh, Nat.add_zero, h5] at h9
      cases h9
theorem own_lit1_at {w : World} {k : IntKind} {x : Int} {t : TypeId} {g : Nat} (h : g = w.heap.size) : (w.alloc (.cells #[.int k x] t)).ownsRow w.heap.size t 1 (.slice (some ⟨g, 0, none⟩) 1 1) 1 ([x].map (Value.int k)) := by subst h; exact own_lit1 _ _ _ _

end Go.Proofs.YtbmooemlekckbaaDoor

/- The reference of bits.Unpack: the rows that it hands back are its own (printed by wip/unpf.py out of XRefU). -/
namespace Go.Proofs.YtbmooemlekckbaaDoor
open Go.RowKit

end Go.Proofs.YtbmooemlekckbaaDoor

/- pilasterref10.Take. -/
namespace Go.Proofs.YtbmooemlekckbaaDoor
open Go.RowKit

end Go.Proofs.YtbmooemlekckbaaDoor

/- rle.one and its reference. -/
namespace Go.Proofs.YtbmooemlekckbaaDoor
open Go.RowKit

theorem getD_u8o {l : List Int} (h : U8 l) (i : Nat) : 0 ≤ l.getD i 0 ∧ l.getD i 0 < 256 := by
  rcases Nat.lt_or_ge i l.length with h1 | h1
  · exact h _ (by simp [List.getD, List.getElem?_eq_getElem h1])
  · rw [show l.getD i 0 = 0 from by simp [List.getD, List.getElem?_eq_none h1]]; omega

set_option maxRecDepth 100000 in
set_option maxHeartbeats 1000000 in
theorem one_any (w : World) (A : Option Addr) (n cap : Nat) (b : List Int) (hr : Ri w .u8 A n b) (hu : U8 b) (hc : n ≤ cap) (hm : cap ≤ 9223372036854775807) (hn : n ≤ 100000) (s : Bool) (l r : List Int) (er : Int) (hl : oneR b s = (l, r, er)) :
    Calls Tryd.prog 37 #[.slice A n cap, .bool s] w (TakeOutD w l r er) := by
  have HR := Lib.hid hr; have HU := Lib.hid hu; have HN := Lib.hid hr.len
  clear hr hu
  unfold oneR at hl
  rw [HN.out] at hl
  by_cases h0 : n = 0
  · rw [if_pos h0] at hl
    injection hl with e1 e2; injection e2 with e2 e3
    subst e1 e2 e3 h0
    go_enter Tryd.func37, Tryd.ntmps37
    go_wp2_with fail
    refine bodyPost_ret (results_tmp3 rfl _ _ _) rfl ?_
    exact ⟨none, 0, 0, none, 0, 0, rfl, Sl.nil _ _, Sl.nil _ _, Below.refl _ _⟩
  · rw [if_neg h0] at hl
    obtain ⟨bb, oo, hA, hbl, hcells⟩ := HR.out.all (by omega)
    subst hA
    have g0 := hcells 0 (by omega)
    rw [Nat.add_zero] at g0
    have hx0 := getD_u8o HU.out 0
    obtain ⟨x, hx⟩ : ∃ x : Nat, (x : Int) = b.getD 0 0 := ⟨(b.getD 0 0).toNat, by omega⟩
    rw [← hx] at g0 hx0 hl
    clear hcells hx
    by_cases c0 : x < 64
    · rw [if_pos (by omega)] at hl
      obtain ⟨y, t, r1, e1, hT⟩ : ∃ y t r1 e1, takeR b s = (y, t, r1, e1) := ⟨_, _, _, _, rfl⟩
      have hrest := takeR_rest b s HU.out
      rw [hT] at hl hrest
      injection hl with e2 e3; injection e3 with e3 e4
      subst e2 e3 e4
      obtain ⟨T, rfl⟩ := Int.eq_ofNat_of_zero_le hrest.2.2.1
      have hT1 := hrest.2.2.2
      dsimp only at hT1 ⊢
      rw [Int.toNat_natCast]
      have HT := Lib.hid hT
      clear hT hrest
      go_enter Tryd.func37, Tryd.ntmps37
      go_wp2_with fail
      refine (Take_any _ _ _ b s _ HR.out HU.out hc hm (by omega) y T r1 e1 HT.out).mono ?_; rintro e2 w1 ⟨G1, n1, c1, rfl, hs1, hb1⟩
      have HS1 := Lib.hid hs1; have HB1 := Lib.hid hb1
      clear hs1 hb1
      go_wp2_with fail
      by_cases hT0 : T = 0
      · subst hT0
        refine (RepeatI_none _ _ _ y (Rd.one _ _ _)).mono ?_; rintro e2 w2 ⟨G2, n2, c2, rfl, hs2, hb2⟩
        go_wp2_with fail
        refine bodyPost_ret (results_tmp3 rfl _ _ _) rfl ?_
        exact ⟨_, _, _, _, _, _, rfl, hs2, (HS1.out.below ((Below.refl _ _).alloc (Nat.le_refl _) _)).below hb2, on (HB1.out.alloc HB1.out.size _) hb2⟩
      · refine (RepeatI_any _ _ _ y (Rd.one _ _ _) T (by omega) (by omega)).mono ?_; rintro e2 w2 ⟨G2, n2, c2, rfl, hs2, hb2⟩
        go_wp2_with fail
        refine bodyPost_ret (results_tmp3 rfl _ _ _) rfl ?_
        exact ⟨_, _, _, _, _, _, rfl, hs2, (HS1.out.below ((Below.refl _ _).alloc (Nat.le_refl _) _)).below hb2, on (HB1.out.alloc HB1.out.size _) hb2⟩
    · rw [if_neg (by omega)] at hl
      by_cases c1 : x < 128
      · rw [if_pos (by omega)] at hl
        have HL := Lib.hid hl
        clear hl
        go_enter Tryd.func37, Tryd.ntmps37
        go_wp2_with fail
        refine (DTake_any _ _ _ _ b HR.out HU.out hc hm (by omega) s l r er HL.out).mono ?_; rintro e2 w1 ⟨G1, n1, c1, G2, n2, c2, rfl, h1, h2, hb1⟩
        go_wp2_with fail
        refine bodyPost_ret (results_tmp3 rfl _ _ _) rfl ?_
        exact ⟨_, _, _, _, _, _, rfl, h1, h2, hb1⟩
      · rw [if_neg (by omega)] at hl
        by_cases c2 : x < 192
        · rw [if_pos (by omega)] at hl
          have HL := Lib.hid hl
          clear hl
          go_enter Tryd.func37, Tryd.ntmps37
          go_wp2_with fail
          refine (PTake_any _ _ _ _ b HR.out HU.out hc hm (by omega) s l r er HL.out).mono ?_; rintro e2 w1 ⟨G1, n1, c1, G2, n2, c2, rfl, h1, h2, hb1⟩
          go_wp2_with fail
          refine bodyPost_ret (results_tmp3 rfl _ _ _) rfl ?_
          exact ⟨_, _, _, _, _, _, rfl, h1, h2, hb1⟩
        · rw [if_neg (by omega)] at hl
          have HL := Lib.hid hl
          clear hl
          go_enter Tryd.func37, Tryd.ntmps37
          go_wp2_with fail
          refine (DeTake_any _ _ _ _ b HR.out HU.out hc hm (by omega) s l r er HL.out).mono ?_; rintro e2 w1 ⟨G1, n1, c1, G2, n2, c2, rfl, h1, h2, hb1⟩
          go_wp2_with fail
          refine bodyPost_ret (results_tmp3 rfl _ _ _) rfl ?_
          exact ⟨_, _, _, _, _, _, rfl, h1, h2, hb1⟩

end Go.Proofs.YtbmooemlekckbaaDoor

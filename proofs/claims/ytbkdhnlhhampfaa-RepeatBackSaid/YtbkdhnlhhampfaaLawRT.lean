/- The walk through RepeatTakes. -/
import Derived.Test.YtbkdhnlhhampfaaRepRT
namespace Go.Proofs.Ytbkdhnlhhampfaa
open Go.RowKit

theorem takeR_u8 (b : List Int) (s : Bool) (h : U8 b) : U8 (takeR b s).2.2.1 := by
  unfold takeR
  cases b with
  | nil => intro x hx; cases hx
  | cons c r =>
    have hr : U8 r := fun x hx => h x (List.mem_cons_of_mem _ hx)
    simp only
    split
    · intro x hx; cases hx
    · split
      · intro x hx; cases hx
      · split
        · intro x hx; cases hx
        · exact hr.drop _

set_option maxHeartbeats 1000000 in
theorem RepeatTakes_walk (w : World) (A : Option Addr) (n cap : Nat) (l : List Int) (hr : Ri w .u8 A n l) (hu : U8 l) (hc : n ≤ cap) (hm : cap ≤ maxLen) (s : Bool) :
    Calls Try.prog 9 #[.slice A n cap, .bool s] w fun e w' => e = .returned (.bool true) ∧ Below w.heap.size w w' := by
  unfold maxLen at hm
  have HU := Lib.hid hu; clear hu
  have HR := Lib.hid hr; clear hr
  have hpair : (n ≤ 100 ∧ Hid (∃ l2, Ri w .u8 A n l2 ∧ U8 l2)) ∨ (100 < n ∧ Hid (∃ l2, Ri w .u8 A 100 l2 ∧ U8 l2) ∧ ∃ b o, A = some ⟨b, o, none⟩) := by
    rcases Nat.lt_or_ge 100 n with h | h
    · obtain ⟨b, o, e, _⟩ := HR.out.all (by omega)
      exact .inr ⟨h, ⟨_, HR.out.first (by omega), HU.out.take _⟩, b, o, e⟩
    · exact .inl ⟨h, ⟨_, HR.out, HU.out⟩⟩
  rcases hpair with ⟨h200, h2⟩ | ⟨h200, h2, b, o, rfl⟩
  all_goals
    go_enter Try.func9, Try.ntmps9
    go_wp2_with fail
    refine (shown07_any _).mono ?_; rintro e w1 ⟨rfl, hb1⟩
    obtain ⟨l2, hr2, hu2⟩ := h2.out
    have hr3 := hr2.below hb1
    have HR2 := Lib.hid hr2; have HR3 := Lib.hid hr3; have HU2 := Lib.hid hu2
    clear hr2 hr3 hu2
    obtain ⟨x, t, r, er, hl⟩ : ∃ x t r er, takeR l2 s = (x, t, r, er) := ⟨_, _, _, _, rfl⟩
    have HL := Lib.hid hl; clear hl
    go_wp2_with (at_builtin; refine wpList_u8 _ rfl _ _ rfl w1.heap.size _ 0 [] rfl (own_empty w1 _ 1) _ _ _ l2 rfl (HR3.out.alloc _) (by omega) (by simp) ?_; intro G2 c2 w2 hown hgr hcc)
    have hb2 := push0 ((Below.refl w1.heap.size w1).alloc (Nat.le_refl _) _) (Nat.le_refl _) (own_empty w1 _ 1) hgr
    rw [Nat.zero_add, List.nil_append] at hown
    have hc2 := own_cap hown
    have hro := Ri.of_own hown
    have HO := Lib.hid hro; clear hro hown hgr hcc
    refine (Take_any _ _ _ l2 s _ HO.out HU2.out hc2.1 hc2.2 (by omega) x t r er HL.out).mono ?_; rintro e w3 ⟨G3, n3, c3, rfl, hr3, hb3⟩
    go_wp2_with fail
    refine (refTake_any _ _ _ l2 s _ ((HR3.out.below hb2).below hb3) HU2.out (by omega) (by omega) (by omega) x t r er HL.out).mono ?_; rintro e w4 ⟨G4, n4, c4, rfl, hr4, hb4⟩
    have cv1 := conv_any (c := c3) (hr3.1.below hb4)
    have cv2 := conv_any (c := c4) hr4.1
    clear hr3 hr4
    go_wp2_with fail
    go_ret
    exact ⟨rfl, on (on (on hb1 hb2) hb3) hb4⟩
end Go.Proofs.Ytbkdhnlhhampfaa

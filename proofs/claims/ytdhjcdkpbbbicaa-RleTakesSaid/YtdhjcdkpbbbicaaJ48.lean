/- Joined texts: GlRefTake, LawG5. Each has its own head line. No condition beyond those that its theorems state. -/
import Derived.Test.YtdhjcdkpbbbicaaJ44
import Derived.Test.YtdhjcdkpbbbicaaJ38
import Derived.Test.YtdhjcdkpbbbicaaJ47
set_option linter.unusedVariables false

/- pilasterref11.Take. -/
namespace Go.Proofs.Ytdhjcdkpbbbicaa
open Go.RowKit

/-- The state while the reference takes runs: it may have taken more than it should. -/
def TakeGR (w wr : World) (N M : Nat) (s : Bool) (res : List Int × List Int × Int) (bv v : Value) : Prop :=
  ∃ A m c l o f, bv = .slice A m c ∧ Ri wr .u8 A m l ∧ U8 l ∧ m ≤ c ∧ c ≤ 9223372036854775807 ∧ m ≤ N ∧ wr.ownsRow w.heap.size 3 1 v o.length (o.map (Value.int .i64)) ∧ Ints wr v ∧ Below w.heap.size w wr ∧ m < f ∧
    ((o.length ≤ M ∧ takeF s M f o l = res) ∨ (M < o.length ∧ o.length ≤ M + 4096 ∧ res = ([], [], 2)))

set_option maxRecDepth 100000 in
set_option maxHeartbeats 2000000 in
theorem refTakeGl_any (w : World) (A : Option Addr) (n cap : Nat) (b : List Int) (hr : Ri w .u8 A n b) (hu : U8 b) (_hc : n ≤ cap) (_hm : cap ≤ 9223372036854775807) (hn : n ≤ 100000) (many : Int) (s : Bool) (l r : List Int) (er : Int) (hp : takeGl b many s = (l, r, er)) :
    Calls Try.prog 23 #[.slice A n cap, .int .i64 many, .bool s] w (TakeOutD w l r er) := by
  have HR := Lib.hid hr; have HU := Lib.hid hu; have HN := Lib.hid hr.len
  clear hr hu
  unfold takeGl at hp
  by_cases hbad : many < 0 ∨ 4096 < many
  · rw [if_pos hbad] at hp
    injection hp with e1 e2; injection e2 with e2 e3
    subst e1 e2 e3
    rcases hbad with hbad | hbad
    all_goals
      go_enter Try.func23, Try.ntmps23
      go_wp2_with fail
      refine bodyPost_ret (results_tmp3 rfl _ _ _) rfl ?_
      exact ⟨none, 0, 0, none, 0, 0, rfl, Sl.nil _ _, Sl.nil _ _, Below.refl _ _⟩
  · rw [if_neg hbad] at hp
    obtain ⟨M, rfl⟩ := Int.eq_ofNat_of_zero_le (show 0 ≤ many by omega)
    have hM : M ≤ 4096 := by omega
    rw [Int.toNat_natCast, HN.out] at hp
    have HP := Lib.hid hp
    clear hp hbad
    have hba := ((Below.refl w.heap.size w).alloc (Nat.le_refl _) (.cells #[] 3))
    have HRA := Lib.hid ((HR.out.below hba).below ((Below.refl _ _).alloc (Nat.le_refl _) (.cells #[] 5)))
    clear hba
    have hown0 : ((w.alloc (.cells #[] 3)).alloc (.cells #[] 5)).ownsRow (w.heap.size + 1) 5 1 (.slice (some ⟨w.heap.size + 1, 0, none⟩) 0 0) 0 (([] : List Int).map (Value.int .u8)) := by
      have h := own_empty (w.alloc (.cells #[] 3)) 5 1
      rwa [World.size_alloc] at h
    have HO0 := Lib.hid hown0
    clear hown0
    go_enter Try.func23, Try.ntmps23
    go_wp2_with (at_builtin; refine wpList_u8 _ rfl _ _ rfl (w.heap.size + 1) _ 0 [] rfl HO0.out _ n _ b rfl HRA.out (by omega) (by simp) ?_; intro G0 c0 w0 hown hgr hcc)
    have hb0 : Below (w.alloc (.cells #[] 3)).heap.size (w.alloc (.cells #[] 3)) w0 := below_of_grown ((Below.refl _ _).alloc (Nat.le_refl _) _) hgr (by simp) (fun k hk => by injection hk with hk; subst hk; simp)
    have HOU := Lib.hid (own_below (own_empty w 3 1) hb0)
    have hint : Ints (w.alloc (.cells #[] 3)) (.slice (some ⟨w.heap.size, 0, none⟩) 0 0) := fun g hg => by
      injection hg with hg
      dsimp only at hg
      subst hg
      exact ⟨_, _, _, heap_alloc_new w _, fun u hu => by simp at hu⟩
    have HIN := Lib.hid (hint.below hb0)
    have HB0 := Lib.hid (on ((Below.refl w.heap.size w).alloc (Nat.le_refl _) _) hb0)
    have hs0 := Sl.of_own hown
    rw [Nat.zero_add, List.nil_append] at hs0
    have hcap0 := hs0.2
    have HS0 := Lib.hid hs0.1
    clear hown hgr hcc hb0 hint hs0
    go_wp2_with fail
    go_loopw [9, 10] (fun v bv wr => Hid (TakeGR w wr n M s (l, r, er) bv v)) (fun _ bv _ => lenS bv)
    case atStart => exact ⟨_, n, c0, b, [], n + 1, rfl, HS0.out, HU.out, hcap0.1, hcap0.2, Nat.le_refl _, HOU.out, HIN.out, HB0.out, Nat.lt_succ_self _, .inl ⟨by simp, HP.out⟩⟩
    case round =>
      obtain ⟨A1, n1, c1, b1, o, f, rfl, hr1, hu1, hc1, hcm1, hn1, ho, hi, hb, hf, hd⟩ := hrel.out
      obtain ⟨G, gc, rfl⟩ := own_form ho
      have hgc := own_cap ho
      have HR1 := Lib.hid hr1; have HU1 := Lib.hid hu1; have HO := Lib.hid ho; have HI := Lib.hid hi; have HB := Lib.hid hb; have HL1 := Lib.hid hr1.len
      obtain ⟨f, rfl⟩ : ∃ g, f = g + 1 := ⟨f - 1, by omega⟩
      clear hrel hr1 hu1 ho hi hb
      rcases hd with ⟨hol, hd⟩ | ⟨hol, hol2, hd⟩
      · simp only [takeF] at hd
        by_cases hge : M ≤ o.length
        · obtain rfl : o.length = M := by omega
          rw [if_pos hge] at hd
          injection hd with e1 e2; injection e2 with e2 e3
          subst e1 e2 e3
          go_wp2_with fail
          refine bodyPost_ret (results_tmp3 rfl _ _ _) rfl ?_
          exact ⟨_, _, _, _, _, _, rfl, Sl.of_own HO.out, ⟨HR1.out, hc1, hcm1⟩, HB.out⟩
        · rw [if_neg hge] at hd
          have hres := one_rest b1 s HU1.out
          have hgood := (one_good b1 s HU1.out).2
          obtain ⟨l2, r2, e2, hone⟩ : ∃ l r e, oneR b1 s = (l, r, e) := ⟨_, _, _, rfl⟩
          rw [hone] at hd hres hgood
          dsimp only at hd hres hgood
          have HONE := Lib.hid hone
          have HU2 := Lib.hid hres.1
          have hres2 := hres.2
          rw [HL1.out] at hres2
          clear hone hres
          go_wp2_with fail
          refine (refOne_any _ _ _ _ b1 HR1.out HU1.out hc1 hcm1 (by omega) s l2 r2 e2 HONE.out).mono ?_; rintro e w2 ⟨G2, n2, c2, G3, n3, c3, rfl, hs2, hs3, hb2⟩
          have HB2 := Lib.hid (on HB.out hb2); have HO2 := Lib.hid (own_below HO.out hb2); have HI2 := Lib.hid (HI.out.below hb2)
          have HS2 := Lib.hid hs2; have HS3 := Lib.hid hs3.1
          have hn2 := hs2.1.len; have hn3 := hs3.1.len; have hc3 := hs3.2
          have hz2 := HB2.out.size
          clear hs2 hs3 hb2
          by_cases he : e2 = 0
          · subst he
            have hlt3 := hres2 rfl
            have hnew : (o.length + n2 ≤ M ∧ takeF s M f (o ++ l2) r2 = (l, r, er)) ∨ (M < o.length + n2 ∧ o.length + n2 ≤ M + 4096 ∧ (l, r, er) = ([], [], 2)) := by
              by_cases hov : M < o.length + l2.length
              · rw [if_pos (.inr hov)] at hd
                exact .inr ⟨by omega, by omega, hd.symm⟩
              · rw [if_neg (by rintro (h | h); exact h rfl; exact hov h)] at hd
                exact .inl ⟨by omega, hd⟩
            rw [hn2] at hgood
            have HNEW := Lib.hid hnew
            clear hd hres2 hnew
            go_wp2_with (at_builtin; refine wpList_ints _ rfl _ _ rfl w.heap.size _ o.length o rfl HO2.out HI2.out _ n2 c2 l2 rfl HS2.out.1 (by omega) hz2 ?_; intro G4 c4 w4 hown hgr hint)
            have HOWN := Lib.hid hown; have HINT := Lib.hid hint; have HR4 := Lib.hid (HI2.out.keep HS3.out hgr); have HB4 := Lib.hid (push0 HB2.out (Nat.le_refl _) HO2.out hgr)
            clear hown hgr hint
            go_wp2_with fail
            have hlo : (o ++ l2).length = o.length + n2 := by rw [List.length_append, hn2]
            refine ⟨⟨_, _, _, r2, o ++ l2, f, rfl, HR4.out, HU2.out, hc3.1, hc3.2, by omega, ?_, HINT.out, HB4.out, by omega, ?_⟩, ?_⟩
            · rw [hlo]
              exact HOWN.out
            · rw [hlo]
              exact HNEW.out
            · show n3 < n1
              omega
          · rw [if_pos (.inl he)] at hd
            injection hd with e1 e2; injection e2 with e2 e3
            subst e1 e2 e3
            have heb : (e2 == 0) = false := by simp [he]
            go_wp2_with fail
            refine bodyPost_ret (results_tmp3 rfl _ _ _) rfl ?_
            exact ⟨none, 0, 0, none, 0, 0, rfl, Sl.nil _ _, Sl.nil _ _, HB2.out⟩
      · injection hd with e1 e2; injection e2 with e2 e3
        subst e1 e2 e3
        go_wp2_with fail
        refine bodyPost_ret (results_tmp3 rfl _ _ _) rfl ?_
        exact ⟨none, 0, 0, none, 0, 0, rfl, Sl.nil _ _, Sl.nil _ _, HB.out⟩
end Go.Proofs.Ytdhjcdkpbbbicaa

/- The walk through RleTakes. -/
namespace Go.Proofs.Ytdhjcdkpbbbicaa
open Go.RowKit

theorem takeF_good (s : Bool) (many : Nat) : ∀ (f : Nat) (out b : List Int), U8 b → I64 out → out.length ≤ many → I64 (takeF s many f out b).1 ∧ (takeF s many f out b).1.length ≤ many := by
  have hnil : I64 [] := fun y hy => by cases hy
  intro f
  induction f with
  | zero => intro out b _ _ _; exact ⟨hnil, Nat.zero_le _⟩
  | succ f ih =>
    intro out b hb ho hl
    rw [takeF]
    split
    · exact ⟨ho, hl⟩
    · split
      · exact ⟨hnil, Nat.zero_le _⟩
      · rename_i h
        have h1 := one_good b s hb
        have h2 := one_rest b s hb
        refine ih _ _ h2.1 (fun y hy => ?_) (by rw [List.length_append]; omega)
        rcases List.mem_append.1 hy with h3 | h3
        · exact ho y h3
        · exact h1.1 y h3
theorem takeGl_good (b : List Int) (many : Int) (s : Bool) (hb : U8 b) : I64 (takeGl b many s).1 ∧ (takeGl b many s).1.length ≤ 4096 := by
  unfold takeGl
  split
  · exact ⟨fun y hy => (by cases hy), Nat.zero_le _⟩
  · have := takeF_good s many.toNat (b.length + 1) [] b hb (fun y hy => (by cases hy)) (Nat.zero_le _)
    exact ⟨this.1, by omega⟩
theorem cut_ri12 {w : World} {kd : IntKind} {A : Option Addr} {n : Nat} {l : List Int} (h : Ri w kd A n l) (K : Nat) :
    (K < n ∧ (∃ b o, A = some ⟨b, o, none⟩) ∧ Ri w kd A K (l.take K)) ∨ (n ≤ K ∧ Ri w kd A n (l.take K)) := by
  rcases Nat.lt_or_ge K n with h1 | h1
  · obtain ⟨b, o, e, _⟩ := h.all (by omega)
    exact .inl ⟨h1, ⟨b, o, e⟩, h.first (by omega)⟩
  · exact .inr ⟨h1, by rw [List.take_of_length_le (by rw [h.len]; exact h1)]; exact h⟩

set_option maxRecDepth 100000 in
set_option maxHeartbeats 2000000 in
theorem RleTakes_walk (w : World) (A : Option Addr) (n cap : Nat) (b : List Int) (hr : Ri w .u8 A n b) (hu : U8 b) (hc : n ≤ cap) (hm : cap ≤ maxLen) (many : Int) (_hx : -9223372036854775808 ≤ many ∧ many < 9223372036854775808) (s : Bool) :
    Calls Try.prog 7 #[.slice A n cap, .int .i64 many, .bool s] w fun e w' => e = .returned (.bool true) ∧ Below w.heap.size w w' := by
  unfold maxLen at hm
  have HU := Lib.hid (hu.take 1500)
  obtain ⟨l, r, er, hl⟩ : ∃ l r er, takeGl (b.take 1500) many s = (l, r, er) := ⟨_, _, _, rfl⟩
  have hg := takeGl_good (b.take 1500) many s (hu.take 1500)
  rw [hl] at hg
  obtain ⟨hg1, hg2⟩ := hg
  dsimp only at hg2
  have HG := Lib.hid hg1; have HL := Lib.hid hl
  clear hg1 hl hu
  rcases cut_ri12 hr 1500 with ⟨h1, ⟨bb, oo, rfl⟩, h2⟩ | ⟨h1, h2⟩
  all_goals
    have H2 := Lib.hid h2
    clear hr h2
    go_enter Try.func7, Try.ntmps7
    go_wp2_with fail
    refine (shown11_any _).mono ?_; rintro e w1 ⟨rfl, hb1⟩
    have HB1 := Lib.hid hb1; clear hb1
    go_wp2_with (at_builtin; refine wpList_u8 _ rfl _ _ rfl w1.heap.size _ 0 [] rfl (own_empty w1 _ 1) _ _ _ (b.take 1500) rfl ((H2.out.below HB1.out).alloc _) (by omega) (by simp) ?_; intro G3 c3 w3 hown hgr hcc)
    have hb3 := push0 ((Below.refl w1.heap.size w1).alloc (Nat.le_refl _) _) (Nat.le_refl _) (own_empty w1 _ 1) hgr
    rw [Nat.zero_add, List.nil_append] at hown
    have hs3 := Sl.of_own hown
    have HO := Lib.hid hs3
    have HB3 := Lib.hid hb3
    clear hown hgr hcc hs3 hb3
    refine (TakeGl_any _ _ _ _ (b.take 1500) HO.out.1 HU.out HO.out.2.1 HO.out.2.2 (by omega) many s l r er HL.out).mono ?_; rintro e w4 ⟨G4, n4, c4, G5, n5, c5, rfl, hs4, hs5, hb4⟩
    go_wp2_with fail
    refine (refTakeGl_any _ _ _ _ (b.take 1500) (((H2.out.below HB1.out).below HB3.out).below hb4) HU.out (by omega) (by omega) (by omega) many s l r er HL.out).mono ?_; rintro e w5 ⟨G6, n6, c6, G7, n7, c7, rfl, hs6, hs7, hb5⟩
    have q4 := hs4.1.len; have q6 := hs6.1.len
    go_wp2_with fail
    refine (Same8_any _ _ _ _ _ _ _ l l (hs4.1.below hb5) hs6.1 (by omega) (by omega) HG.out HG.out).mono ?_; rintro e w6 ⟨rfl, hb6⟩
    rw [decide_eq_true rfl]
    have cv1 := conv_any (c := c5) ((hs5.1.below hb5).below hb6)
    have cv2 := conv_any (c := c7) (hs7.1.below hb6)
    have st := strOf_same r
    generalize strOf r = S at *
    have HB := Lib.hid (on (on (on (on HB1.out HB3.out) hb4) hb5) hb6)
    clear hs4 hs5 hs6 hs7 hb4 hb5 hb6 q4 q6
    go_wp2_with fail
    go_ret
    exact ⟨rfl, HB.out⟩
end Go.Proofs.Ytdhjcdkpbbbicaa

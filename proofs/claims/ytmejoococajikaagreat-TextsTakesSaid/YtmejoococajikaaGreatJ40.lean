/- Joined texts: PlainGo, GlTake, GlRefTake. Each has its own head line. No condition beyond those that its theorems state. -/
import Derived.Test.YtmejoococajikaaGreatJ39
import Derived.Test.YtmejoococajikaaGreatJ28
import Derived.Test.YtmejoococajikaaGreatJ35
import Derived.Test.YtmejoococajikaaGreatJ25
import Derived.Test.YtmejoococajikaaGreatJ32
set_option linter.unusedVariables false

/- Rle: plain: what a run comes to. -/
namespace Go.Proofs.YtmejoococajikaaGreat
open Go.RowKit

theorem stepsDe_someG (f s : Bool) (Z : List Int) : ∀ (x : Int) (l : List Int), I64x x → (∀ u ∈ Z, 0 ≤ u) → stepsDe f s x Z = some l → I64 l ∧ l.length = Z.length := by
  induction Z with
  | nil => intro x l _ _ h; rw [stepsDe_nil] at h; injection h with h; subst h; exact ⟨fun y hy => (by cases hy), rfl⟩
  | cons u t ih =>
    intro x l hx hz h
    simp only [stepsDe] at h
    split at h
    · rw [Option.map_eq_some_iff] at h
      obtain ⟨l2, h2, rfl⟩ := h
      have hy := stepR_range x u f hx (hz u List.mem_cons_self)
      obtain ⟨h3, h4⟩ := ih _ l2 hy (fun v hv => hz v (List.mem_cons_of_mem _ hv)) h2
      refine ⟨fun y hy2 => ?_, by simp [h4]⟩
      rcases List.mem_cons.1 hy2 with rfl | hy2
      · exact hy
      · exact h3 y hy2
    · cases h
theorem takeDe_goodG (b : List Int) (s : Bool) (hu : U8 b) : I64 (takeDe b s).1 ∧ (takeDe b s).1.length ≤ 513 := by
  have hnil : I64 [] := fun y hy => by cases hy
  have hlk := lookR_more b hu
  obtain ⟨k, c, m, r0, e0, h1⟩ : ∃ k c m r0 e0, lookR b = (k, c, m, r0, e0) := ⟨_, _, _, _, _, rfl⟩
  rw [h1] at hlk
  obtain ⟨hu0, he0, hc0, hc1, hm0, hm1⟩ := hlk
  dsimp only at hu0 he0 hc0 hc1 hm0 hm1
  have ht1r := takeI_range r0 s
  obtain ⟨x, r1, e1, h2⟩ : ∃ x r1 e1, takeI r0 s = (x, r1, e1) := ⟨_, _, _, rfl⟩
  rw [h2] at ht1r
  obtain ⟨fi, r2, e2, h3⟩ : ∃ fi r2 e2, takeI r1 true = (fi, r2, e2) := ⟨_, _, _, rfl⟩
  have hdr := diffR_range 0 fi
  obtain ⟨sz, fl, ok, h4⟩ : ∃ sz fl ok, diffR 0 fi = (sz, fl, ok) := ⟨_, _, _, rfl⟩
  rw [h4] at hdr
  have hul := unpackR_u64 r2 (m - 2) (wOf c); have hum := unpackR_many r2 (m - 2) (wOf c)
  obtain ⟨L, r3, e3, h5⟩ : ∃ L r3 e3, unpackR r2 (m - 2) (wOf c) = (L, r3, e3) := ⟨_, _, _, rfl⟩
  rw [h5] at hul hum
  dsimp only at hdr hul hum ht1r
  rw [takeDe_eq h1 h2 h3 h4 h5]
  split
  · exact ⟨hnil, by simp⟩
  · split
    · exact ⟨hnil, by simp⟩
    · split
      · exact ⟨hnil, by simp⟩
      · split
        · exact ⟨hnil, by simp⟩
        · split
          · exact ⟨hnil, by simp⟩
          · rename_i hb1 _ _ _ hb5
            have hzz : ∀ u ∈ (if 0 < c then sz :: L else List.replicate (m - 1).toNat sz), 0 ≤ u := by
              intro u hu
              split at hu
              · rcases List.mem_cons.1 hu with rfl | hu
                · exact hdr.1
                · exact (hul u hu).1
              · rw [List.eq_of_mem_replicate hu]; exact hdr.1
            have hzl : (if 0 < c then sz :: L else List.replicate (m - 1).toNat sz).length ≤ 512 := by
              split
              · rename_i hc
                have he3 : e3 = 0 := by
                  rcases Classical.em (e3 = 0) with h | h
                  · exact h
                  · exact absurd ⟨hc, h⟩ hb5
                have := hum he3
                simp only [List.length_cons]; omega
              · rw [List.length_replicate]; omega
            cases hst : stepsDe fl s x (if 0 < c then sz :: L else List.replicate (m - 1).toNat sz) with
            | none => exact ⟨hnil, by simp [finDe]⟩
            | some l =>
              obtain ⟨h6, h7⟩ := stepsDe_someG fl s _ x l ht1r hzz hst
              refine ⟨fun y hy => ?_, by simp only [finDe, List.length_cons]; omega⟩
              rcases List.mem_cons.1 hy with rfl | hy
              · exact ht1r
              · exact h6 y hy
theorem takePa_goodG (b : List Int) (s : Bool) : I64 (takePa b s).1 ∧ (takePa b s).1.length ≤ 4096 := by
  have hnil : I64 [] := fun y hy => by cases hy
  have hbad : I64 badT.1 ∧ badT.1.length ≤ 4096 := ⟨hnil, by simp [badT]⟩
  unfold takePa
  split
  · exact hbad
  · unfold takeP2
    split
    · exact hbad
    · generalize hB : numR _ = B
      have hBr : I64x B := by rw [← hB]; exact stepR_range 0 _ _ (by unfold I64x; omega) (by omega)
      unfold takeP2b
      split
      · exact hbad
      · unfold takeP3
        split
        · exact hbad
        · have h1 := unpackR_u64 ((b.drop 4).drop (b.getD 2 0 / 32 + 1).toNat) (lookR b).2.2.1 ((wOf (lookR b).2.1).toNat : Int)
          have h2 := unpackR_len ((b.drop 4).drop (b.getD 2 0 / 32 + 1).toNat) (lookR b).2.2.1 ((wOf (lookR b).2.1).toNat : Int)
          generalize (unpackR ((b.drop 4).drop (b.getD 2 0 / 32 + 1).toNat) (lookR b).2.2.1 ((wOf (lookR b).2.1).toNat : Int)).1 = L at *
          have h3 := patchN_u64 (wOf (b.getD 2 0 % 32)).toNat (b.getD 3 0 / 32 + 1).toNat (wOf (lookR b).2.1).toNat L
          unfold takeP4
          split
          · exact hbad
          · rename_i q hq
            obtain ⟨h4, h5⟩ := h3 _ h1 _ q hq
            split
            · refine ⟨fun y hy => ?_, by simp only [sumL, List.length_map]; omega⟩
              obtain ⟨u, hu, rfl⟩ := List.mem_map.1 hy
              exact stepR_range B u false hBr (h4 u hu).1
            · exact hbad
theorem takeR_num (b : List Int) (s : Bool) (hu : U8 b) : I64x (takeR b s).1 := by
  unfold takeR I64x
  split
  · exact ⟨by decide, by decide⟩
  · rename_i c r
    split
    · exact ⟨by decide, by decide⟩
    · split
      · exact ⟨by decide, by decide⟩
      · split
        · exact ⟨by decide, by decide⟩
        · rename_i h1 h2 h3
          have hcu := hu c List.mem_cons_self
          have hl := foldU_lt (r.take (c / 8 + 1).toNat) (fun y hy => hu y (List.mem_cons_of_mem _ (List.mem_of_mem_take hy)))
          have hk : (r.take (c / 8 + 1).toNat).length ≤ 8 := by rw [List.length_take]; omega
          have hp : 256 ^ (r.take (c / 8 + 1).toNat).length ≤ 256 ^ 8 := Nat.pow_le_pow_right (by decide) hk
          have h8 : 256 ^ 8 = 18446744073709551616 := by decide
          generalize foldU (r.take (c / 8 + 1).toNat) = F at *
          generalize 256 ^ (r.take (c / 8 + 1).toNat).length = M at *
          dsimp only
          cases s
          · rw [if_neg (by simp)]
            have : ¬ 9223372036854775808 ≤ F := fun h => h3 (.inr ⟨rfl, h⟩)
            omega
          · rw [if_pos rfl]
            exact zag_range _ (by omega) (by omega)
theorem one_good (b : List Int) (s : Bool) (hu : U8 b) : I64 (oneR b s).1 ∧ (oneR b s).1.length ≤ 4096 := by
  have hnil : I64 [] := fun y hy => by cases hy
  unfold oneR
  split
  · exact ⟨hnil, by simp⟩
  · split
    · have h1 := takeR_num b s hu
      have h2 := (takeR_rest b s hu).2.2
      refine ⟨fun y hy => ?_, by dsimp only; rw [List.length_replicate]; omega⟩
      rw [List.eq_of_mem_replicate hy]
      exact h1
    · split
      · exact takeD_good b s
      · split
        · exact takePa_goodG b s
        · have := takeDe_goodG b s hu
          exact ⟨this.1, by omega⟩
end Go.Proofs.YtmejoococajikaaGreat

/- rle.Take. -/
namespace Go.Proofs.YtmejoococajikaaGreat
open Go.RowKit

/-- The state while runs are taken. -/
def TakeGW (w wr : World) (N M : Nat) (s : Bool) (res : List Int × List Int × Int) (bv v : Value) : Prop :=
  ∃ A m c l o f, bv = .slice A m c ∧ Ri wr .u8 A m l ∧ U8 l ∧ m ≤ c ∧ c ≤ 9223372036854775807 ∧ m ≤ N ∧ wr.ownsRow w.heap.size 3 1 v o.length (o.map (Value.int .i64)) ∧ Ints wr v ∧ Below w.heap.size w wr ∧ takeF s M f o l = res ∧ m < f ∧ o.length ≤ M

set_option maxRecDepth 100000 in
set_option maxHeartbeats 2000000 in
theorem TakeGl_any (w : World) (A : Option Addr) (n cap : Nat) (b : List Int) (hr : Ri w .u8 A n b) (hu : U8 b) (hc : n ≤ cap) (hm : cap ≤ 9223372036854775807) (hn : n ≤ 100000) (many : Int) (s : Bool) (l r : List Int) (er : Int) (hp : takeGl b many s = (l, r, er)) :
    Calls Tryz.prog 69 #[.slice A n cap, .int .i64 many, .bool s] w (TakeOutD w l r er) := by
  have HR := Lib.hid hr; have HU := Lib.hid hu; have HN := Lib.hid hr.len
  clear hr hu
  unfold takeGl at hp
  by_cases hbad : many < 0 ∨ 4096 < many
  · rw [if_pos hbad] at hp
    injection hp with e1 e2; injection e2 with e2 e3
    subst e1 e2 e3
    rcases hbad with hbad | hbad
    all_goals
      go_enter Tryz.func69, Tryz.ntmps69
      go_wp2_with fail
      refine bodyPost_ret (results_tmp3 rfl _ _ _) rfl ?_
      exact ⟨none, 0, 0, none, 0, 0, rfl, Sl.nil _ _, Sl.nil _ _, Below.refl _ _⟩
  · rw [if_neg hbad] at hp
    obtain ⟨M, rfl⟩ := Int.eq_ofNat_of_zero_le (show 0 ≤ many by omega)
    have hM : M ≤ 4096 := by omega
    rw [Int.toNat_natCast, HN.out] at hp
    have HP := Lib.hid hp
    clear hp hbad
    go_enter Tryz.func69, Tryz.ntmps69
    go_wp2_with fail
    go_loopw [0, 9] (fun bv v wr => Hid (TakeGW w wr n M s (l, r, er) bv v)) (fun bv _ _ => lenS bv)
    case atStart => exact ⟨A, n, cap, b, [], n + 1, rfl, HR.out, HU.out, hc, hm, Nat.le_refl _, World.ownsRow_nil _ _ _ _, Ints.nil _ _ _, Below.refl _ _, HP.out, Nat.lt_succ_self _, by simp⟩
    case round =>
      obtain ⟨A1, n1, c1, b1, o, f, rfl, hr1, hu1, hc1, hcm1, hn1, ho, hi, hb, hd, hf, hol⟩ := hrel.out
      obtain ⟨G, gc, rfl⟩ := own_form ho
      have hgc := own_cap ho
      have HR1 := Lib.hid hr1; have HU1 := Lib.hid hu1; have HO := Lib.hid ho; have HI := Lib.hid hi; have HB := Lib.hid hb; have HL1 := Lib.hid hr1.len
      obtain ⟨f, rfl⟩ : ∃ g, f = g + 1 := ⟨f - 1, by omega⟩
      simp only [takeF] at hd
      clear hrel hr1 hu1 ho hi hb
      by_cases hge : M ≤ o.length
      · obtain rfl : o.length = M := by omega
        rw [if_pos hge] at hd
        injection hd with e1 e2; injection e2 with e2 e3
        subst e1 e2 e3
        go_wp2_with fail
        refine (Clone_any _ _ _ _ _ HR1.out (by omega)).mono ?_; rintro e w2 ⟨G2, n2, c2, rfl, hr2, hb2⟩
        go_wp2_with fail
        refine bodyPost_ret (results_tmp3 rfl _ _ _) rfl ?_
        exact ⟨_, _, _, G2, n2, c2, rfl, (Sl.of_own HO.out).below hb2, hr2, on HB.out hb2⟩
      · rw [if_neg hge] at hd
        have hres := one_rest b1 s HU1.out
        have hgood := (one_good b1 s HU1.out).2
        obtain ⟨l2, r2, e2, hone⟩ : ∃ l r e, oneR b1 s = (l, r, e) := ⟨_, _, _, rfl⟩
        rw [hone] at hd hres hgood
        dsimp only at hd hres hgood
        have HONE := Lib.hid hone
        have HU2 := Lib.hid hres.1
        have hres2 := hres.2
        rw [HL1.out] at hres2
        clear hone hres
        go_wp2_with fail
        refine (one_any _ _ _ _ b1 HR1.out HU1.out hc1 hcm1 (by omega) s l2 r2 e2 HONE.out).mono ?_; rintro e w2 ⟨G2, n2, c2, G3, n3, c3, rfl, hs2, hs3, hb2⟩
        have HB2 := Lib.hid (on HB.out hb2); have HO2 := Lib.hid (own_below HO.out hb2); have HI2 := Lib.hid (HI.out.below hb2)
        have HS2 := Lib.hid hs2; have HS3 := Lib.hid hs3.1
        have hn2 := hs2.1.len; have hn3 := hs3.1.len; have hc3 := hs3.2
        have hz2 := HB2.out.size
        clear hs2 hs3 hb2
        by_cases he : e2 = 0
        · subst he
          have hlt3 := hres2 rfl
          by_cases hov : M < o.length + l2.length
          · rw [if_pos (.inr hov)] at hd
            injection hd with e1 e2; injection e2 with e2 e3
            subst e1 e2 e3
            rw [hn2] at hov
            go_wp2_with fail
            refine bodyPost_ret (results_tmp3 rfl _ _ _) rfl ?_
            exact ⟨none, 0, 0, none, 0, 0, rfl, Sl.nil _ _, Sl.nil _ _, HB2.out⟩
          · rw [if_neg (by rintro (h | h); exact h rfl; exact hov h)] at hd
            rw [hn2] at hov hgood
            have HD := Lib.hid hd
            clear hd hres2
            go_wp2_with (at_builtin; refine wpList_ints _ rfl _ _ rfl w.heap.size _ o.length o rfl HO2.out HI2.out _ n2 c2 l2 rfl HS2.out.1 (by omega) hz2 ?_; intro G4 c4 w4 hown hgr hint)
            have HOWN := Lib.hid hown; have HINT := Lib.hid hint; have HR4 := Lib.hid (HI2.out.keep HS3.out hgr); have HB4 := Lib.hid (push0 HB2.out (Nat.le_refl _) HO2.out hgr)
            clear hown hgr hint
            all_goals
              go_wp2_with fail
            all_goals
              refine ⟨⟨_, _, _, r2, o ++ l2, f, rfl, HR4.out, HU2.out, hc3.1, hc3.2, by omega, ?_, HINT.out, HB4.out, HD.out, by omega, ?_⟩, ?_⟩
              · rw [List.length_append, hn2]
                exact HOWN.out
              · rw [List.length_append, hn2]
                omega
              · show n3 < n1
                omega
        · rw [if_pos (.inl he)] at hd
          injection hd with e1 e2; injection e2 with e2 e3
          subst e1 e2 e3
          have heb : (e2 == 0) = false := by simp [he]
          go_wp2_with fail
          refine bodyPost_ret (results_tmp3 rfl _ _ _) rfl ?_
          exact ⟨none, 0, 0, none, 0, 0, rfl, Sl.nil _ _, Sl.nil _ _, HB2.out⟩
end Go.Proofs.YtmejoococajikaaGreat

/- pilasterref11.Take. -/
namespace Go.Proofs.YtmejoococajikaaGreat
open Go.RowKit

/-- The state while the reference takes runs: it may have taken more than it should. -/
def TakeGR (w wr : World) (N M : Nat) (s : Bool) (res : List Int × List Int × Int) (bv v : Value) : Prop :=
  ∃ A m c l o f, bv = .slice A m c ∧ Ri wr .u8 A m l ∧ U8 l ∧ m ≤ c ∧ c ≤ 9223372036854775807 ∧ m ≤ N ∧ wr.ownsRow w.heap.size 3 1 v o.length (o.map (Value.int .i64)) ∧ Ints wr v ∧ Below w.heap.size w wr ∧ m < f ∧
    ((o.length ≤ M ∧ takeF s M f o l = res) ∨ (M < o.length ∧ o.length ≤ M + 4096 ∧ res = ([], [], 2)))

set_option maxRecDepth 100000 in
set_option maxHeartbeats 2000000 in
theorem refTakeGl_any (w : World) (A : Option Addr) (n cap : Nat) (b : List Int) (hr : Ri w .u8 A n b) (hu : U8 b) (_hc : n ≤ cap) (_hm : cap ≤ 9223372036854775807) (hn : n ≤ 100000) (many : Int) (s : Bool) (l r : List Int) (er : Int) (hp : takeGl b many s = (l, r, er)) :
    Calls Tryz.prog 33 #[.slice A n cap, .int .i64 many, .bool s] w (TakeOutD w l r er) := by
  have HR := Lib.hid hr; have HU := Lib.hid hu; have HN := Lib.hid hr.len
  clear hr hu
  unfold takeGl at hp
  by_cases hbad : many < 0 ∨ 4096 < many
  · rw [if_pos hbad] at hp
    injection hp with e1 e2; injection e2 with e2 e3
    subst e1 e2 e3
    rcases hbad with hbad | hbad
    all_goals
      go_enter Tryz.func33, Tryz.ntmps33
      go_wp2_with fail
      refine bodyPost_ret (results_tmp3 rfl _ _ _) rfl ?_
      exact ⟨none, 0, 0, none, 0, 0, rfl, Sl.nil _ _, Sl.nil _ _, Below.refl _ _⟩
  · rw [if_neg hbad] at hp
    obtain ⟨M, rfl⟩ := Int.eq_ofNat_of_zero_le (show 0 ≤ many by omega)
    have hM : M ≤ 4096 := by omega
    rw [Int.toNat_natCast, HN.out] at hp
    have HP := Lib.hid hp
    clear hp hbad
    have hba := ((Below.refl w.heap.size w).alloc (Nat.le_refl _) (.cells #[] 3))
    have HRA := Lib.hid ((HR.out.below hba).below ((Below.refl _ _).alloc (Nat.le_refl _) (.cells #[] 5)))
    clear hba
    have hown0 : ((w.alloc (.cells #[] 3)).alloc (.cells #[] 5)).ownsRow (w.heap.size + 1) 5 1 (.slice (some ⟨w.heap.size + 1, 0, none⟩) 0 0) 0 (([] : List Int).map (Value.int .u8)) := by
      have h := own_empty (w.alloc (.cells #[] 3)) 5 1
      rwa [World.size_alloc] at h
    have HO0 := Lib.hid hown0
    clear hown0
    go_enter Tryz.func33, Tryz.ntmps33
    go_wp2_with (at_builtin; refine wpList_u8 _ rfl _ _ rfl (w.heap.size + 1) _ 0 [] rfl HO0.out _ n _ b rfl HRA.out (by omega) (by simp) ?_; intro G0 c0 w0 hown hgr hcc)
    have hb0 : Below (w.alloc (.cells #[] 3)).heap.size (w.alloc (.cells #[] 3)) w0 := below_of_grown ((Below.refl _ _).alloc (Nat.le_refl _) _) hgr (by simp) (fun k hk => by injection hk with hk; subst hk; simp)
    have HOU := Lib.hid (own_below (own_empty w 3 1) hb0)
    have hint : Ints (w.alloc (.cells #[] 3)) (.slice (some ⟨w.heap.size, 0, none⟩) 0 0) := fun g hg => by
      injection hg with hg
      dsimp only at hg
      subst hg
      exact ⟨_, _, _, heap_alloc_new w _, fun u hu => by simp at hu⟩
    have HIN := Lib.hid (hint.below hb0)
    have HB0 := Lib.hid (on ((Below.refl w.heap.size w).alloc (Nat.le_refl _) _) hb0)
    have hs0 := Sl.of_own hown
    rw [Nat.zero_add, List.nil_append] at hs0
    have hcap0 := hs0.2
    have HS0 := Lib.hid hs0.1
    clear hown hgr hcc hb0 hint hs0
    go_wp2_with fail
    go_loopw [9, 10] (fun v bv wr => Hid (TakeGR w wr n M s (l, r, er) bv v)) (fun _ bv _ => lenS bv)
    case atStart => exact ⟨_, n, c0, b, [], n + 1, rfl, HS0.out, HU.out, hcap0.1, hcap0.2, Nat.le_refl _, HOU.out, HIN.out, HB0.out, Nat.lt_succ_self _, .inl ⟨by simp, HP.out⟩⟩
    case round =>
      obtain ⟨A1, n1, c1, b1, o, f, rfl, hr1, hu1, hc1, hcm1, hn1, ho, hi, hb, hf, hd⟩ := hrel.out
      obtain ⟨G, gc, rfl⟩ := own_form ho
      have hgc := own_cap ho
      have HR1 := Lib.hid hr1; have HU1 := Lib.hid hu1; have HO := Lib.hid ho; have HI := Lib.hid hi; have HB := Lib.hid hb; have HL1 := Lib.hid hr1.len
      obtain ⟨f, rfl⟩ : ∃ g, f = g + 1 := ⟨f - 1, by omega⟩
      clear hrel hr1 hu1 ho hi hb
      rcases hd with ⟨hol, hd⟩ | ⟨hol, hol2, hd⟩
      · simp only [takeF] at hd
        by_cases hge : M ≤ o.length
        · obtain rfl : o.length = M := by omega
          rw [if_pos hge] at hd
          injection hd with e1 e2; injection e2 with e2 e3
          subst e1 e2 e3
          go_wp2_with fail
          refine bodyPost_ret (results_tmp3 rfl _ _ _) rfl ?_
          exact ⟨_, _, _, _, _, _, rfl, Sl.of_own HO.out, ⟨HR1.out, hc1, hcm1⟩, HB.out⟩
        · rw [if_neg hge] at hd
          have hres := one_rest b1 s HU1.out
          have hgood := (one_good b1 s HU1.out).2
          obtain ⟨l2, r2, e2, hone⟩ : ∃ l r e, oneR b1 s = (l, r, e) := ⟨_, _, _, rfl⟩
          rw [hone] at hd hres hgood
          dsimp only at hd hres hgood
          have HONE := Lib.hid hone
          have HU2 := Lib.hid hres.1
          have hres2 := hres.2
          rw [HL1.out] at hres2
          clear hone hres
          go_wp2_with fail
          refine (refOne_any _ _ _ _ b1 HR1.out HU1.out hc1 hcm1 (by omega) s l2 r2 e2 HONE.out).mono ?_; rintro e w2 ⟨G2, n2, c2, G3, n3, c3, rfl, hs2, hs3, hb2⟩
          have HB2 := Lib.hid (on HB.out hb2); have HO2 := Lib.hid (own_below HO.out hb2); have HI2 := Lib.hid (HI.out.below hb2)
          have HS2 := Lib.hid hs2; have HS3 := Lib.hid hs3.1
          have hn2 := hs2.1.len; have hn3 := hs3.1.len; have hc3 := hs3.2
          have hz2 := HB2.out.size
          clear hs2 hs3 hb2
          by_cases he : e2 = 0
          · subst he
            have hlt3 := hres2 rfl
            have hnew : (o.length + n2 ≤ M ∧ takeF s M f (o ++ l2) r2 = (l, r, er)) ∨ (M < o.length + n2 ∧ o.length + n2 ≤ M + 4096 ∧ (l, r, er) = ([], [], 2)) := by
              by_cases hov : M < o.length + l2.length
              · rw [if_pos (.inr hov)] at hd
                exact .inr ⟨by omega, by omega, hd.symm⟩
              · rw [if_neg (by rintro (h | h); exact h rfl; exact hov h)] at hd
                exact .inl ⟨by omega, hd⟩
            rw [hn2] at hgood
            have HNEW := Lib.hid hnew
            clear hd hres2 hnew
            go_wp2_with (at_builtin; refine wpList_ints _ rfl _ _ rfl w.heap.size _ o.length o rfl HO2.out HI2.out _ n2 c2 l2 rfl HS2.out.1 (by omega) hz2 ?_; intro G4 c4 w4 hown hgr hint)
            have HOWN := Lib.hid hown; have HINT := Lib.hid hint; have HR4 := Lib.hid (HI2.out.keep HS3.out hgr); have HB4 := Lib.hid (push0 HB2.out (Nat.le_refl _) HO2.out hgr)
            clear hown hgr hint
            go_wp2_with fail
            have hlo : (o ++ l2).length = o.length + n2 := by rw [List.length_append, hn2]
            refine ⟨⟨_, _, _, r2, o ++ l2, f, rfl, HR4.out, HU2.out, hc3.1, hc3.2, by omega, ?_, HINT.out, HB4.out, by omega, ?_⟩, ?_⟩
            · rw [hlo]
              exact HOWN.out
            · rw [hlo]
              exact HNEW.out
            · show n3 < n1
              omega
          · rw [if_pos (.inl he)] at hd
            injection hd with e1 e2; injection e2 with e2 e3
            subst e1 e2 e3
            have heb : (e2 == 0) = false := by simp [he]
            go_wp2_with fail
            refine bodyPost_ret (results_tmp3 rfl _ _ _) rfl ?_
            exact ⟨none, 0, 0, none, 0, 0, rfl, Sl.nil _ _, Sl.nil _ _, HB2.out⟩
      · injection hd with e1 e2; injection e2 with e2 e3
        subst e1 e2 e3
        go_wp2_with fail
        refine bodyPost_ret (results_tmp3 rfl _ _ _) rfl ?_
        exact ⟨none, 0, 0, none, 0, 0, rfl, Sl.nil _ _, Sl.nil _ _, HB.out⟩
end Go.Proofs.YtmejoococajikaaGreat

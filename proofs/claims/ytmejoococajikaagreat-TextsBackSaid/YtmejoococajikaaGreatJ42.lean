/- Joined texts: PlainGo, GlTake, PlainGm. Each has its own head line. No condition beyond those that its theorems state. -/
import Derived.Test.YtmejoococajikaaGreatJ41
import Derived.Test.YtmejoococajikaaGreatJ29
import Derived.Test.YtmejoococajikaaGreatJ37
import Derived.Test.YtmejoococajikaaGreatJ26
import Derived.Test.YtmejoococajikaaGreatJ33
set_option linter.unusedVariables false

/- Rle: plain: what a run comes to. -/
namespace Go.Proofs.YtmejoococajikaaGreat
open Go.RowKit

theorem stepsDe_someG (f s : Bool) (Z : List Int) : ∀ (x : Int) (l : List Int), I64x x → (∀ u ∈ Z, 0 ≤ u) → stepsDe f s x Z = some l → I64 l ∧ l.length = Z.length := by
  induction Z with
  | nil => intro x l _ _ h; rw [stepsDe_nil] at h; injection h with h; subst h; exact ⟨fun y hy => (by cases hy), rfl⟩
  | cons u t ih =>
    intro x l hx hz h
    simp only [stepsDe] at h
    split at h
    · rw [Option.map_eq_some_iff] at h
      obtain ⟨l2, h2, rfl⟩ := h
      have hy := stepR_range x u f hx (hz u List.mem_cons_self)
      obtain ⟨h3, h4⟩ := ih _ l2 hy (fun v hv => hz v (List.mem_cons_of_mem _ hv)) h2
      refine ⟨fun y hy2 => ?_, by simp [h4]⟩
      rcases List.mem_cons.1 hy2 with rfl | hy2
      · exact hy
      · exact h3 y hy2
    · cases h
theorem takeDe_goodG (b : List Int) (s : Bool) (hu : U8 b) : I64 (takeDe b s).1 ∧ (takeDe b s).1.length ≤ 513 := by
  have hnil : I64 [] := fun y hy => by cases hy
  have hlk := lookR_more b hu
  obtain ⟨k, c, m, r0, e0, h1⟩ : ∃ k c m r0 e0, lookR b = (k, c, m, r0, e0) := ⟨_, _, _, _, _, rfl⟩
  rw [h1] at hlk
  obtain ⟨hu0, he0, hc0, hc1, hm0, hm1⟩ := hlk
  dsimp only at hu0 he0 hc0 hc1 hm0 hm1
  have ht1r := takeI_range r0 s
  obtain ⟨x, r1, e1, h2⟩ : ∃ x r1 e1, takeI r0 s = (x, r1, e1) := ⟨_, _, _, rfl⟩
  rw [h2] at ht1r
  obtain ⟨fi, r2, e2, h3⟩ : ∃ fi r2 e2, takeI r1 true = (fi, r2, e2) := ⟨_, _, _, rfl⟩
  have hdr := diffR_range 0 fi
  obtain ⟨sz, fl, ok, h4⟩ : ∃ sz fl ok, diffR 0 fi = (sz, fl, ok) := ⟨_, _, _, rfl⟩
  rw [h4] at hdr
  have hul := unpackR_u64 r2 (m - 2) (wOf c); have hum := unpackR_many r2 (m - 2) (wOf c)
  obtain ⟨L, r3, e3, h5⟩ : ∃ L r3 e3, unpackR r2 (m - 2) (wOf c) = (L, r3, e3) := ⟨_, _, _, rfl⟩
  rw [h5] at hul hum
  dsimp only at hdr hul hum ht1r
  rw [takeDe_eq h1 h2 h3 h4 h5]
  split
  · exact ⟨hnil, by simp⟩
  · split
    · exact ⟨hnil, by simp⟩
    · split
      · exact ⟨hnil, by simp⟩
      · split
        · exact ⟨hnil, by simp⟩
        · split
          · exact ⟨hnil, by simp⟩
          · rename_i hb1 _ _ _ hb5
            have hzz : ∀ u ∈ (if 0 < c then sz :: L else List.replicate (m - 1).toNat sz), 0 ≤ u := by
              intro u hu
              split at hu
              · rcases List.mem_cons.1 hu with rfl | hu
                · exact hdr.1
                · exact (hul u hu).1
              · rw [List.eq_of_mem_replicate hu]; exact hdr.1
            have hzl : (if 0 < c then sz :: L else List.replicate (m - 1).toNat sz).length ≤ 512 := by
              split
              · rename_i hc
                have he3 : e3 = 0 := by
                  rcases Classical.em (e3 = 0) with h | h
                  · exact h
                  · exact absurd ⟨hc, h⟩ hb5
                have := hum he3
                simp only [List.length_cons]; omega
              · rw [List.length_replicate]; omega
            cases hst : stepsDe fl s x (if 0 < c then sz :: L else List.replicate (m - 1).toNat sz) with
            | none => exact ⟨hnil, by simp [finDe]⟩
            | some l =>
              obtain ⟨h6, h7⟩ := stepsDe_someG fl s _ x l ht1r hzz hst
              refine ⟨fun y hy => ?_, by simp only [finDe, List.length_cons]; omega⟩
              rcases List.mem_cons.1 hy with rfl | hy
              · exact ht1r
              · exact h6 y hy
theorem takePa_goodG (b : List Int) (s : Bool) : I64 (takePa b s).1 ∧ (takePa b s).1.length ≤ 4096 := by
  have hnil : I64 [] := fun y hy => by cases hy
  have hbad : I64 badT.1 ∧ badT.1.length ≤ 4096 := ⟨hnil, by simp [badT]⟩
  unfold takePa
  split
  · exact hbad
  · unfold takeP2
    split
    · exact hbad
    · generalize hB : numR _ = B
      have hBr : I64x B := by rw [← hB]; exact stepR_range 0 _ _ (by unfold I64x; omega) (by omega)
      unfold takeP2b
      split
      · exact hbad
      · unfold takeP3
        split
        · exact hbad
        · have h1 := unpackR_u64 ((b.drop 4).drop (b.getD 2 0 / 32 + 1).toNat) (lookR b).2.2.1 ((wOf (lookR b).2.1).toNat : Int)
          have h2 := unpackR_len ((b.drop 4).drop (b.getD 2 0 / 32 + 1).toNat) (lookR b).2.2.1 ((wOf (lookR b).2.1).toNat : Int)
          generalize (unpackR ((b.drop 4).drop (b.getD 2 0 / 32 + 1).toNat) (lookR b).2.2.1 ((wOf (lookR b).2.1).toNat : Int)).1 = L at *
          have h3 := patchN_u64 (wOf (b.getD 2 0 % 32)).toNat (b.getD 3 0 / 32 + 1).toNat (wOf (lookR b).2.1).toNat L
          unfold takeP4
          split
          · exact hbad
          · rename_i q hq
            obtain ⟨h4, h5⟩ := h3 _ h1 _ q hq
            split
            · refine ⟨fun y hy => ?_, by simp only [sumL, List.length_map]; omega⟩
              obtain ⟨u, hu, rfl⟩ := List.mem_map.1 hy
              exact stepR_range B u false hBr (h4 u hu).1
            · exact hbad
theorem takeR_num (b : List Int) (s : Bool) (hu : U8 b) : I64x (takeR b s).1 := by
  unfold takeR I64x
  split
  · exact ⟨by decide, by decide⟩
  · rename_i c r
    split
    · exact ⟨by decide, by decide⟩
    · split
      · exact ⟨by decide, by decide⟩
      · split
        · exact ⟨by decide, by decide⟩
        · rename_i h1 h2 h3
          have hcu := hu c List.mem_cons_self
          have hl := foldU_lt (r.take (c / 8 + 1).toNat) (fun y hy => hu y (List.mem_cons_of_mem _ (List.mem_of_mem_take hy)))
          have hk : (r.take (c / 8 + 1).toNat).length ≤ 8 := by rw [List.length_take]; omega
          have hp : 256 ^ (r.take (c / 8 + 1).toNat).length ≤ 256 ^ 8 := Nat.pow_le_pow_right (by decide) hk
          have h8 : 256 ^ 8 = 18446744073709551616 := by decide
          generalize foldU (r.take (c / 8 + 1).toNat) = F at *
          generalize 256 ^ (r.take (c / 8 + 1).toNat).length = M at *
          dsimp only
          cases s
          · rw [if_neg (by simp)]
            have : ¬ 9223372036854775808 ≤ F := fun h => h3 (.inr ⟨rfl, h⟩)
            omega
          · rw [if_pos rfl]
            exact zag_range _ (by omega) (by omega)
theorem one_good (b : List Int) (s : Bool) (hu : U8 b) : I64 (oneR b s).1 ∧ (oneR b s).1.length ≤ 4096 := by
  have hnil : I64 [] := fun y hy => by cases hy
  unfold oneR
  split
  · exact ⟨hnil, by simp⟩
  · split
    · have h1 := takeR_num b s hu
      have h2 := (takeR_rest b s hu).2.2
      refine ⟨fun y hy => ?_, by dsimp only; rw [List.length_replicate]; omega⟩
      rw [List.eq_of_mem_replicate hy]
      exact h1
    · split
      · exact takeD_good b s
      · split
        · exact takePa_goodG b s
        · have := takeDe_goodG b s hu
          exact ⟨this.1, by omega⟩
end Go.Proofs.YtmejoococajikaaGreat

/- rle.Take. -/
namespace Go.Proofs.YtmejoococajikaaGreat
open Go.RowKit

/-- The state while runs are taken. -/
def TakeGW (w wr : World) (N M : Nat) (s : Bool) (res : List Int × List Int × Int) (bv v : Value) : Prop :=
  ∃ A m c l o f, bv = .slice A m c ∧ Ri wr .u8 A m l ∧ U8 l ∧ m ≤ c ∧ c ≤ 9223372036854775807 ∧ m ≤ N ∧ wr.ownsRow w.heap.size 3 1 v o.length (o.map (Value.int .i64)) ∧ Ints wr v ∧ Below w.heap.size w wr ∧ takeF s M f o l = res ∧ m < f ∧ o.length ≤ M

set_option maxRecDepth 100000 in
set_option maxHeartbeats 2000000 in
theorem TakeGl_any (w : World) (A : Option Addr) (n cap : Nat) (b : List Int) (hr : Ri w .u8 A n b) (hu : U8 b) (hc : n ≤ cap) (hm : cap ≤ 9223372036854775807) (hn : n ≤ 100000) (many : Int) (s : Bool) (l r : List Int) (er : Int) (hp : takeGl b many s = (l, r, er)) :
    Calls Tryz.prog 69 #[.slice A n cap, .int .i64 many, .bool s] w (TakeOutD w l r er) := by
  have HR := Lib.hid hr; have HU := Lib.hid hu; have HN := Lib.hid hr.len
  clear hr hu
  unfold takeGl at hp
  by_cases hbad : many < 0 ∨ 4096 < many
  · rw [if_pos hbad] at hp
    injection hp with e1 e2; injection e2 with e2 e3
    subst e1 e2 e3
    rcases hbad with hbad | hbad
    all_goals
      go_enter Tryz.func69, Tryz.ntmps69
      go_wp2_with fail
      refine bodyPost_ret (results_tmp3 rfl _ _ _) rfl ?_
      exact ⟨none, 0, 0, none, 0, 0, rfl, Sl.nil _ _, Sl.nil _ _, Below.refl _ _⟩
  · rw [if_neg hbad] at hp
    obtain ⟨M, rfl⟩ := Int.eq_ofNat_of_zero_le (show 0 ≤ many by omega)
    have hM : M ≤ 4096 := by omega
    rw [Int.toNat_natCast, HN.out] at hp
    have HP := Lib.hid hp
    clear hp hbad
    go_enter Tryz.func69, Tryz.ntmps69
    go_wp2_with fail
    go_loopw [0, 9] (fun bv v wr => Hid (TakeGW w wr n M s (l, r, er) bv v)) (fun bv _ _ => lenS bv)
    case atStart => exact ⟨A, n, cap, b, [], n + 1, rfl, HR.out, HU.out, hc, hm, Nat.le_refl _, World.ownsRow_nil _ _ _ _, Ints.nil _ _ _, Below.refl _ _, HP.out, Nat.lt_succ_self _, by simp⟩
    case round =>
      obtain ⟨A1, n1, c1, b1, o, f, rfl, hr1, hu1, hc1, hcm1, hn1, ho, hi, hb, hd, hf, hol⟩ := hrel.out
      obtain ⟨G, gc, rfl⟩ := own_form ho
      have hgc := own_cap ho
      have HR1 := Lib.hid hr1; have HU1 := Lib.hid hu1; have HO := Lib.hid ho; have HI := Lib.hid hi; have HB := Lib.hid hb; have HL1 := Lib.hid hr1.len
      obtain ⟨f, rfl⟩ : ∃ g, f = g + 1 := ⟨f - 1, by omega⟩
      simp only [takeF] at hd
      clear hrel hr1 hu1 ho hi hb
      by_cases hge : M ≤ o.length
      · obtain rfl : o.length = M := by omega
        rw [if_pos hge] at hd
        injection hd with e1 e2; injection e2 with e2 e3
        subst e1 e2 e3
        go_wp2_with fail
        refine (Clone_any _ _ _ _ _ HR1.out (by omega)).mono ?_; rintro e w2 ⟨G2, n2, c2, rfl, hr2, hb2⟩
        go_wp2_with fail
        refine bodyPost_ret (results_tmp3 rfl _ _ _) rfl ?_
        exact ⟨_, _, _, G2, n2, c2, rfl, (Sl.of_own HO.out).below hb2, hr2, on HB.out hb2⟩
      · rw [if_neg hge] at hd
        have hres := one_rest b1 s HU1.out
        have hgood := (one_good b1 s HU1.out).2
        obtain ⟨l2, r2, e2, hone⟩ : ∃ l r e, oneR b1 s = (l, r, e) := ⟨_, _, _, rfl⟩
        rw [hone] at hd hres hgood
        dsimp only at hd hres hgood
        have HONE := Lib.hid hone
        have HU2 := Lib.hid hres.1
        have hres2 := hres.2
        rw [HL1.out] at hres2
        clear hone hres
        go_wp2_with fail
        refine (one_any _ _ _ _ b1 HR1.out HU1.out hc1 hcm1 (by omega) s l2 r2 e2 HONE.out).mono ?_; rintro e w2 ⟨G2, n2, c2, G3, n3, c3, rfl, hs2, hs3, hb2⟩
        have HB2 := Lib.hid (on HB.out hb2); have HO2 := Lib.hid (own_below HO.out hb2); have HI2 := Lib.hid (HI.out.below hb2)
        have HS2 := Lib.hid hs2; have HS3 := Lib.hid hs3.1
        have hn2 := hs2.1.len; have hn3 := hs3.1.len; have hc3 := hs3.2
        have hz2 := HB2.out.size
        clear hs2 hs3 hb2
        by_cases he : e2 = 0
        · subst he
          have hlt3 := hres2 rfl
          by_cases hov : M < o.length + l2.length
          · rw [if_pos (.inr hov)] at hd
            injection hd with e1 e2; injection e2 with e2 e3
            subst e1 e2 e3
            rw [hn2] at hov
            go_wp2_with fail
            refine bodyPost_ret (results_tmp3 rfl _ _ _) rfl ?_
            exact ⟨none, 0, 0, none, 0, 0, rfl, Sl.nil _ _, Sl.nil _ _, HB2.out⟩
          · rw [if_neg (by rintro (h | h); exact h rfl; exact hov h)] at hd
            rw [hn2] at hov hgood
            have HD := Lib.hid hd
            clear hd hres2
            go_wp2_with (at_builtin; refine wpList_ints _ rfl _ _ rfl w.heap.size _ o.length o rfl HO2.out HI2.out _ n2 c2 l2 rfl HS2.out.1 (by omega) hz2 ?_; intro G4 c4 w4 hown hgr hint)
            have HOWN := Lib.hid hown; have HINT := Lib.hid hint; have HR4 := Lib.hid (HI2.out.keep HS3.out hgr); have HB4 := Lib.hid (push0 HB2.out (Nat.le_refl _) HO2.out hgr)
            clear hown hgr hint
            all_goals
              go_wp2_with fail
            all_goals
              refine ⟨⟨_, _, _, r2, o ++ l2, f, rfl, HR4.out, HU2.out, hc3.1, hc3.2, by omega, ?_, HINT.out, HB4.out, HD.out, by omega, ?_⟩, ?_⟩
              · rw [List.length_append, hn2]
                exact HOWN.out
              · rw [List.length_append, hn2]
                omega
              · show n3 < n1
                omega
        · rw [if_pos (.inl he)] at hd
          injection hd with e1 e2; injection e2 with e2 e3
          subst e1 e2 e3
          have heb : (e2 == 0) = false := by simp [he]
          go_wp2_with fail
          refine bodyPost_ret (results_tmp3 rfl _ _ _) rfl ?_
          exact ⟨none, 0, 0, none, 0, 0, rfl, Sl.nil _ _, Sl.nil _ _, HB2.out⟩
end Go.Proofs.YtmejoococajikaaGreat

/- Rle: plain: numbers that are not below 0; a run's bytes are the same, whether signed; one number more is not there. -/
namespace Go.Proofs.YtmejoococajikaaGreat
open Go.RowKit

theorem takeD_pos (b : List Int) : ∀ y ∈ (takeD b false).1, 0 ≤ y := by
  have hnil : ∀ y ∈ ([] : List Int), (0 : Int) ≤ y := fun y hy => by cases hy
  have hu := unpackR_u64 (lookR b).2.2.2.1 (lookR b).2.2.1 (wOf (lookR b).2.1)
  unfold takeD
  split
  · exact hnil
  · split
    · exact hnil
    · split
      · exact hnil
      · dsimp only
        unfold madeL mapOk
        rw [if_neg (by simp)]
        split
        · dsimp only
          rw [List.map_id]
          exact fun y hy => (hu y hy).1
        · exact hnil
theorem takePa_pos (b : List Int) : ∀ y ∈ (takePa b false).1, 0 ≤ y := by
  have hbad : ∀ y ∈ badT.1, (0 : Int) ≤ y := fun y hy => by cases hy
  unfold takePa
  split
  · exact hbad
  · unfold takeP2
    split
    · exact hbad
    · unfold takeP2b
      split
      · exact hbad
      · unfold takeP3
        split
        · exact hbad
        · unfold takeP4
          split
          · exact hbad
          · split
            · rename_i h
              intro y hy
              obtain ⟨u, hu, rfl⟩ := List.mem_map.1 hy
              have := List.all_eq_true.1 h u hu
              unfold sumOk at this
              simp only [Bool.false_or, Bool.and_eq_true, decide_eq_true_eq] at this
              exact this.2
            · exact hbad
theorem stepsDe_pos (f : Bool) (Z : List Int) : ∀ (x : Int) (l : List Int), stepsDe f false x Z = some l → ∀ y ∈ l, 0 ≤ y := by
  induction Z with
  | nil => intro x l h; rw [stepsDe_nil] at h; injection h with h; subst h; exact fun y hy => (by cases hy)
  | cons u t ih =>
    intro x l h
    simp only [stepsDe] at h
    split at h
    · rename_i h1
      rw [Option.map_eq_some_iff] at h
      obtain ⟨l2, h2, rfl⟩ := h
      intro y hy
      rcases List.mem_cons.1 hy with rfl | hy
      · rcases h1.2 with h3 | h3
        · cases h3
        · exact h3
      · exact ih _ l2 h2 y hy
    · cases h
theorem takeI_pos (b : List Int) : 0 ≤ (takeI b false).1 := by
  unfold takeI
  split
  · simp
  · rw [if_neg (by simp)]
    split
    · simp
    · dsimp only; omega
theorem finDe_pos (x : Int) (r : List Int) (o : Option (List Int)) (hx : 0 ≤ x) (h : ∀ l, o = some l → ∀ y ∈ l, 0 ≤ y) : ∀ y ∈ (finDe x r o).1, 0 ≤ y := by
  cases o with
  | none => exact fun y hy => (by cases hy)
  | some l =>
    intro y hy
    rcases List.mem_cons.1 hy with rfl | hy
    · exact hx
    · exact h l rfl y hy
theorem takeDe_pos (b : List Int) : ∀ y ∈ (takeDe b false).1, 0 ≤ y := by
  have hnil : ∀ y ∈ ([] : List Int), (0 : Int) ≤ y := fun y hy => by cases hy
  unfold takeDe
  split
  · exact hnil
  · split
    · exact hnil
    · split
      · exact hnil
      · split
        · exact hnil
        · split
          · exact hnil
          · exact finDe_pos _ _ _ (takeI_pos _) (fun l h => stepsDe_pos _ _ _ l h)
theorem takeR_pos (b : List Int) : 0 ≤ (takeR b false).1 := by
  unfold takeR
  split
  · simp
  · split
    · simp
    · split
      · simp
      · split
        · simp
        · dsimp only
          rw [if_neg (by simp)]
          omega
theorem one_pos (b : List Int) : ∀ y ∈ (oneR b false).1, 0 ≤ y := by
  unfold oneR
  split
  · exact fun y hy => (by cases hy)
  · split
    · intro y hy
      rw [List.eq_of_mem_replicate hy]
      exact takeR_pos b
    · split
      · exact takeD_pos b
      · split
        · exact takePa_pos b
        · exact takeDe_pos b
theorem takeF_pos (many : Nat) : ∀ (f : Nat) (out b : List Int), (∀ y ∈ out, 0 ≤ y) → ∀ y ∈ (takeF false many f out b).1, 0 ≤ y := by
  intro f
  induction f with
  | zero => intro out b _ y hy; cases hy
  | succ f ih =>
    intro out b ho
    rw [takeF]
    split
    · exact ho
    · split
      · exact fun y hy => (by cases hy)
      · refine ih _ _ (fun y hy => ?_)
        rcases List.mem_append.1 hy with h | h
        · exact ho y h
        · exact one_pos b y h
theorem takeGl_pos (b : List Int) (many : Int) : ∀ y ∈ (takeGl b many false).1, 0 ≤ y := by
  unfold takeGl
  split
  · exact fun y hy => (by cases hy)
  · exact takeF_pos _ _ _ _ (fun y hy => (by cases hy))
/-- Just so many numbers are taken. -/
theorem takeF_many (s : Bool) (many : Nat) : ∀ (f : Nat) (out b : List Int), out.length ≤ many → (takeF s many f out b).2.2 = 0 → (takeF s many f out b).1.length = many := by
  intro f
  induction f with
  | zero => intro out b _ h; cases h
  | succ f ih =>
    intro out b ho
    rw [takeF]
    split
    · intro _; dsimp only; omega
    · split
      · intro h; cases h
      · rename_i h1
        exact ih _ _ (by rw [List.length_append]; omega)
theorem takeGl_many (b : List Int) (many : Int) (s : Bool) (h : (takeGl b many s).2.2 = 0) : ((takeGl b many s).1.length : Int) = many := by
  unfold takeGl at h ⊢
  split at h
  · cases h
  · rename_i h1
    rw [if_neg h1]
    have := takeF_many s many.toNat (b.length + 1) [] b (Nat.zero_le _) h
    omega
theorem takeF_rest (s : Bool) (many : Nat) : ∀ (f : Nat) (out b : List Int), U8 b → U8 (takeF s many f out b).2.1 ∧ (takeF s many f out b).2.1.length ≤ b.length := by
  intro f
  induction f with
  | zero => intro out b _; exact ⟨fun y hy => (by cases hy), Nat.zero_le _⟩
  | succ f ih =>
    intro out b hb
    rw [takeF]
    split
    · exact ⟨hb, Nat.le_refl _⟩
    · split
      · exact ⟨fun y hy => (by cases hy), Nat.zero_le _⟩
      · rename_i h1
        have h2 := one_rest b s hb
        have h3 := ih (out ++ (oneR b s).1) _ h2.1
        have h4 := h2.2 (Decidable.not_not.1 fun h => h1 (.inl h))
        exact ⟨h3.1, by omega⟩
theorem takeGl_rest (b : List Int) (many : Int) (s : Bool) (hb : U8 b) : U8 (takeGl b many s).2.1 ∧ (takeGl b many s).2.1.length ≤ b.length := by
  unfold takeGl
  split
  · exact ⟨fun y hy => (by cases hy), Nat.zero_le _⟩
  · exact takeF_rest _ _ _ _ _ hb
/-- What stands behind a run is the same, whether signed. -/
theorem takeR_same (b : List Int) (h1 : (takeR b true).2.2.2 = 0) (h2 : (takeR b false).2.2.2 = 0) : (takeR b true).2.2.1 = (takeR b false).2.2.1 := by
  unfold takeR at h1 h2 ⊢
  cases b with
  | nil => rfl
  | cons c r =>
    dsimp only at h1 h2 ⊢
    split at h1
    · cases h1
    · rename_i a1
      rw [if_neg a1] at h2 ⊢
      split at h1
      · cases h1
      · rename_i a2
        rw [if_neg a2] at h2 ⊢
        split at h1
        · cases h1
        · rename_i a3
          rw [if_neg a3]
          rw [if_neg a1, if_neg a2]
          split at h2
          · cases h2
          · rename_i a4; rw [if_neg a4]
theorem takeD_same (b : List Int) (h1 : (takeD b true).2.2 = 0) (h2 : (takeD b false).2.2 = 0) : (takeD b true).2.1 = (takeD b false).2.1 := by
  unfold takeD at h1 h2 ⊢
  split at h1
  · cases h1
  · rename_i a1
    rw [if_neg a1] at h2 ⊢
    rw [if_neg a1]
    split at h1
    · cases h1
    · rename_i a2
      rw [if_neg a2] at h2 ⊢
      rw [if_neg a2]
      split at h1
      · cases h1
      · rename_i a3
        rw [if_neg a3]
        split at h2
        · cases h2
        · rename_i a4; rw [if_neg a4]
theorem takeP4_rest (B : Int) (s : Bool) (o : Option (List Int × Nat)) (r : List Int) (h : (takeP4 B s o r).2.2 = 0) : (takeP4 B s o r).2.1 = r := by
  cases o with
  | none => cases h
  | some q =>
    have e : takeP4 B s (some q) r = if q.1.all (sumOk B s) then (sumL B q.1, r, 0) else badT := rfl
    rw [e] at h ⊢
    split at h
    · rename_i h1; rw [if_pos h1]
    · cases h
theorem takePa_same (b : List Int) (h1 : (takePa b true).2.2 = 0) (h2 : (takePa b false).2.2 = 0) : (takePa b true).2.1 = (takePa b false).2.1 := by
  unfold takePa at h1 h2 ⊢
  split at h1
  · cases h1
  · rename_i a1
    rw [if_neg a1] at h2 ⊢
    rw [if_neg a1]
    unfold takeP2 at h1 h2 ⊢
    split at h1
    · cases h1
    · rename_i a2
      rw [if_neg a2] at h2 ⊢
      rw [if_neg a2]
      unfold takeP2b at h1 h2 ⊢
      split at h1
      · cases h1
      · rename_i a3
        rw [if_neg a3] at h2 ⊢
        rw [if_neg a3]
        unfold takeP3 at h1 h2 ⊢
        split at h1
        · cases h1
        · rename_i a4
          rw [if_neg a4] at h2 ⊢
          rw [if_neg a4]
          rw [takeP4_rest _ _ _ _ h1, takeP4_rest _ _ _ _ h2]
theorem takeI_same (b : List Int) (h1 : (takeI b true).2.2 = 0) (h2 : (takeI b false).2.2 = 0) : (takeI b true).2.1 = (takeI b false).2.1 := by
  unfold takeI at h1 h2 ⊢
  split at h1
  · cases h1
  · rename_i a1
    rw [if_neg a1] at h2 ⊢
    rw [if_neg a1, if_pos rfl, if_neg (by simp)]
    rw [if_neg (by simp)] at h2
    split at h2
    · cases h2
    · rename_i a2; rw [if_neg a2]
theorem finDe_rest2 (x : Int) (r : List Int) (o : Option (List Int)) (h : (finDe x r o).2.2 = 0) : (finDe x r o).2.1 = r := by
  cases o with
  | none => cases h
  | some l => rfl
theorem takeDe_rest_eq (b : List Int) (s : Bool) (h : (takeDe b s).2.2 = 0) : (takeI (lookR b).2.2.2.1 s).2.2 = 0 ∧
    (takeDe b s).2.1 = if 0 < (lookR b).2.1 then (unpackR (takeI (takeI (lookR b).2.2.2.1 s).2.1 true).2.1 ((lookR b).2.2.1 - 2) (wOf (lookR b).2.1)).2.1 else (takeI (takeI (lookR b).2.2.2.1 s).2.1 true).2.1 := by
  unfold takeDe at h ⊢
  split at h
  · cases h
  · rename_i a1
    rw [if_neg a1]
    split at h
    · cases h
    · rename_i a2
      rw [if_neg a2]
      split at h
      · cases h
      · rename_i a3
        rw [if_neg a3]
        split at h
        · cases h
        · rename_i a4
          rw [if_neg a4]
          split at h
          · cases h
          · rename_i a5
            rw [if_neg a5]
            exact ⟨Decidable.not_not.1 a2, finDe_rest2 _ _ _ h⟩
theorem takeDe_same (b : List Int) (h1 : (takeDe b true).2.2 = 0) (h2 : (takeDe b false).2.2 = 0) : (takeDe b true).2.1 = (takeDe b false).2.1 := by
  obtain ⟨k1, k2⟩ := takeDe_rest_eq b true h1
  obtain ⟨k3, k4⟩ := takeDe_rest_eq b false h2
  rw [k2, k4, takeI_same _ k1 k3]
theorem one_same (b : List Int) (h1 : (oneR b true).2.2 = 0) (h2 : (oneR b false).2.2 = 0) : (oneR b true).2.1 = (oneR b false).2.1 := by
  unfold oneR at h1 h2 ⊢
  split at h1
  · cases h1
  · rename_i a1
    rw [if_neg a1] at h2 ⊢
    rw [if_neg a1]
    by_cases c0 : b.getD 0 0 / 64 = 0
    · rw [if_pos c0] at h1 h2 ⊢
      rw [if_pos c0]
      exact takeR_same b h1 h2
    · rw [if_neg c0] at h1 h2 ⊢
      rw [if_neg c0]
      by_cases c1 : b.getD 0 0 / 64 = 1
      · rw [if_pos c1] at h1 h2 ⊢
        rw [if_pos c1]
        exact takeD_same b h1 h2
      · rw [if_neg c1] at h1 h2 ⊢
        rw [if_neg c1]
        by_cases c2 : b.getD 0 0 / 64 = 2
        · rw [if_pos c2] at h1 h2 ⊢
          rw [if_pos c2]
          exact takePa_same b h1 h2
        · rw [if_neg c2] at h1 h2 ⊢
          rw [if_neg c2]
          exact takeDe_same b h1 h2
theorem one_nil (s : Bool) : oneR [] s = ([], [], 2) := by unfold oneR; exact if_pos rfl
/-- Runs that were laid down are passed, however many numbers are wanted. -/
theorem putF_pass (s : Bool) : ∀ (n : Nat) (l : List Int), l.length ≤ n → I64 l → l.all (keepB s) = true → ∀ (f : Nat) (out : List Int), l.length < f →
    ∃ p, putF s f out l = (out ++ p, 0) ∧ U8 p ∧ p.length ≤ 10 * l.length ∧
      (∀ (many g : Nat) (outT r : List Int), outT.length + l.length ≤ many → p.length + r.length < g → ∃ g', r.length < g' ∧ takeF s many g outT (p ++ r) = takeF s many g' (outT ++ l) r) ∧
      (s = false → ∀ (many g : Nat) (outT : List Int), l.length < many → p.length < g → (takeF true many g outT p).2.2 ≠ 0 ∨ ∃ (_ : Nat) (p' : List Int), (takeF true many g outT p).2.1 = p' ∧ ∀ g2, p'.length < g2 → (takeF false many g2 [] p').2.2 ≠ 0) := by
  intro n
  induction n with
  | zero =>
    intro l hl hu hk f out hf
    obtain rfl : l = [] := List.eq_nil_of_length_eq_zero (by omega)
    cases f with
    | zero => omega
    | succ f =>
      refine ⟨[], by rw [putF, List.append_nil]; exact if_pos rfl, fun y hy => (by cases hy), by simp, fun many g outT r hm hg => ⟨g, by simpa using hg, by rw [List.nil_append, List.append_nil]⟩, fun _ many g outT hm hg => ?_⟩
      have hone : ∀ s, oneR [] s = ([], [], 2) := fun s => by unfold oneR; exact if_pos rfl
      have hzero : ∀ g2, 0 < g2 → (takeF false many g2 [] []).2.2 ≠ 0 := by
        intro g2 hg2
        cases g2 with
        | zero => omega
        | succ g2 =>
          rw [takeF, if_neg (by simp at hm ⊢; omega), hone, if_pos (.inl (by simp))]
          simp
      cases g with
      | zero => simp at hg
      | succ g =>
        rw [takeF]
        split
        · exact .inr ⟨0, [], rfl, hzero⟩
        · left
          rw [hone, if_pos (.inl (by simp))]
          simp
  | succ n ih =>
    intro l hl hu hk f out hf
    rcases Nat.eq_zero_or_pos l.length with h0 | h0
    · exact ih l (by omega) hu hk f out hf
    · cases f with
      | zero => omega
      | succ f =>
        have hc := cutL_range l h0
        obtain ⟨k, hkk⟩ : ∃ k, k = cutL l := ⟨_, rfl⟩
        rw [← hkk] at hc
        have hkt := all_part l (keepB s) k hk
        have hut : I64 (l.take k) := fun y hy => hu y (List.mem_of_mem_take hy)
        have hud : I64 (l.drop k) := fun y hy => hu y (List.mem_of_mem_drop hy)
        have hlt : (l.take k).length = k := by rw [List.length_take]; omega
        have hld : (l.drop k).length = l.length - k := List.length_drop
        obtain ⟨q, hq, hq2, hql, ⟨j, hj, hcand⟩, _⟩ := run_ok (l.take k) s hut (keep_run _ _ hkt.1 (by omega) (by omega))
        obtain ⟨hq8, hqb⟩ := cand_back (l.take k) hut s hkt.1 (by omega) (by omega) j q hcand
        obtain ⟨p, hp, hp8, hpl, hpb, hpc⟩ := ih (l.drop k) (by omega) hud hkt.2 f (out ++ q) (by omega)
        have hpass : ∀ (many g : Nat) (outT r : List Int), outT.length + l.length ≤ many → (q ++ p).length + r.length < g → ∃ g', r.length < g' ∧ takeF s many g outT ((q ++ p) ++ r) = takeF s many g' (outT ++ l) r := by
          intro many g outT r hm hg
          rw [List.length_append] at hg
          cases g with
          | zero => omega
          | succ g =>
            obtain ⟨g', h1, h2⟩ := hpb many g (outT ++ l.take k) r (by rw [List.length_append, hlt, hld]; omega) (by omega)
            refine ⟨g', h1, ?_⟩
            rw [takeF, if_neg (by omega), List.append_assoc, hqb]
            dsimp only
            rw [if_neg (by rw [hlt]; omega), h2, List.append_assoc, List.take_append_drop]
        refine ⟨q ++ p, ?_, ?_, by rw [List.length_append]; omega, hpass, fun hs many g outT hm hg => ?_⟩
        · rw [putF, if_neg (by omega), ← hkk, hq, if_neg (by simp)]
          dsimp only
          rw [hp, List.append_assoc]
        · intro y hy
          rcases List.mem_append.1 hy with h | h
          · exact hq8 y h
          · exact hp8 y h
        · subst hs
          rw [List.length_append] at hg
          cases g with
          | zero => omega
          | succ g =>
            rw [takeF]
            split
            · refine .inr ⟨0, _, rfl, fun g2 hg2 => ?_⟩
              obtain ⟨g', h1, h2⟩ := hpass many g2 [] [] (by simp; omega) (by simpa using hg2)
              rw [List.append_nil, List.nil_append] at h2
              rw [h2]
              cases g' with
              | zero => omega
              | succ g' =>
                rw [takeF, if_neg (by omega), one_nil, if_pos (.inl (by simp))]
                simp
            · split
              · left; simp
              · rename_i hbad
                have he : (oneR (q ++ p) true).2.2 = 0 := Decidable.not_not.1 fun h => hbad (.inl h)
                have hsame := one_same (q ++ p) he (by rw [hqb p])
                rw [hqb p] at hsame
                dsimp only at hsame
                rw [hsame]
                exact hpc rfl many g _ (by omega) (by omega)
end Go.Proofs.YtmejoococajikaaGreat

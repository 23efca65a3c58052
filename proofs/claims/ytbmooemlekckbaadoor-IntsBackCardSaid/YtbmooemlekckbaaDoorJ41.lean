/- Joined texts: PlainGo, GlPut, GlTake, PlainGq. Each has its own head line. No condition beyond those that its theorems state. -/
import Derived.Deep.RegionLaw
import Derived.Test.YtbmooemlekckbaaDoorJ39
import Derived.Test.YtbmooemlekckbaaDoorJ20
import Derived.Test.YtbmooemlekckbaaDoorJ22
import Derived.Test.YtbmooemlekckbaaDoorJ21
import Derived.Test.YtbmooemlekckbaaDoorJ36
import Derived.Test.YtbmooemlekckbaaDoorJ02
set_option linter.unusedVariables false

/- Rle: plain: what a run comes to. -/
namespace Go.Proofs.YtbmooemlekckbaaDoor
open Go.RowKit

theorem stepsDe_someG (f s : Bool) (Z : List Int) : ∀ (x : Int) (l : List Int), I64x x → (∀ u ∈ Z, 0 ≤ u) → stepsDe f s x Z = some l → I64 l ∧ l.length = Z.length := by
  induction Z with
  | nil => intro x l _ _ h; rw [stepsDe_nil] at h; injection h with h; subst h; exact ⟨fun y hy => (by cases hy), rfl⟩
  | cons u t ih =>
    intro x l hx hz h
    simp only [stepsDe] at h
    split at h
    · rw [Option.map_eq_some_iff] at h
      obtain ⟨l2, h2, rfl⟩ := h
      have hy := stepR_range x u f hx (hz u List.mem_cons_self)
      obtain ⟨h3, h4⟩ := ih _ l2 hy (fun v hv => hz v (List.mem_cons_of_mem _ hv)) h2
      refine ⟨fun y hy2 => ?_, by simp [h4]⟩
      rcases List.mem_cons.1 hy2 with rfl | hy2
      · exact hy
      · exact h3 y hy2
    · cases h
theorem takeDe_goodG (b : List Int) (s : Bool) (hu : U8 b) : I64 (takeDe b s).1 ∧ (takeDe b s).1.length ≤ 513 := by
  have hnil : I64 [] := fun y hy => by cases hy
  have hlk := lookR_more b hu
  obtain ⟨k, c, m, r0, e0, h1⟩ : ∃ k c m r0 e0, lookR b = (k, c, m, r0, e0) := ⟨_, _, _, _, _, rfl⟩
  rw [h1] at hlk
  obtain ⟨hu0, he0, hc0, hc1, hm0, hm1⟩ := hlk
  dsimp only at hu0 he0 hc0 hc1 hm0 hm1
  have ht1r := takeI_range r0 s
  obtain ⟨x, r1, e1, h2⟩ : ∃ x r1 e1, takeI r0 s = (x, r1, e1) := ⟨_, _, _, rfl⟩
  rw [h2] at ht1r
  obtain ⟨fi, r2, e2, h3⟩ : ∃ fi r2 e2, takeI r1 true = (fi, r2, e2) := ⟨_, _, _, rfl⟩
  have hdr := diffR_range 0 fi
  obtain ⟨sz, fl, ok, h4⟩ : ∃ sz fl ok, diffR 0 fi = (sz, fl, ok) := ⟨_, _, _, rfl⟩
  rw [h4] at hdr
  have hul := unpackR_u64 r2 (m - 2) (wOf c); have hum := unpackR_many r2 (m - 2) (wOf c)
  obtain ⟨L, r3, e3, h5⟩ : ∃ L r3 e3, unpackR r2 (m - 2) (wOf c) = (L, r3, e3) := ⟨_, _, _, rfl⟩
  rw [h5] at hul hum
  dsimp only at hdr hul hum ht1r
  rw [takeDe_eq h1 h2 h3 h4 h5]
  split
  · exact ⟨hnil, by simp⟩
  · split
    · exact ⟨hnil, by simp⟩
    · split
      · exact ⟨hnil, by simp⟩
      · split
        · exact ⟨hnil, by simp⟩
        · split
          · exact ⟨hnil, by simp⟩
          · rename_i hb1 _ _ _ hb5
            have hzz : ∀ u ∈ (if 0 < c then sz :: L else List.replicate (m - 1).toNat sz), 0 ≤ u := by
              intro u hu
              split at hu
              · rcases List.mem_cons.1 hu with rfl | hu
                · exact hdr.1
                · exact (hul u hu).1
              · rw [List.eq_of_mem_replicate hu]; exact hdr.1
            have hzl : (if 0 < c then sz :: L else List.replicate (m - 1).toNat sz).length ≤ 512 := by
              split
              · rename_i hc
                have he3 : e3 = 0 := by
                  rcases Classical.em (e3 = 0) with h | h
                  · exact h
                  · exact absurd ⟨hc, h⟩ hb5
                have := hum he3
                simp only [List.length_cons]; omega
              · rw [List.length_replicate]; omega
            cases hst : stepsDe fl s x (if 0 < c then sz :: L else List.replicate (m - 1).toNat sz) with
            | none => exact ⟨hnil, by simp [finDe]⟩
            | some l =>
              obtain ⟨h6, h7⟩ := stepsDe_someG fl s _ x l ht1r hzz hst
              refine ⟨fun y hy => ?_, by simp only [finDe, List.length_cons]; omega⟩
              rcases List.mem_cons.1 hy with rfl | hy
              · exact ht1r
              · exact h6 y hy
theorem takePa_goodG (b : List Int) (s : Bool) : I64 (takePa b s).1 ∧ (takePa b s).1.length ≤ 4096 := by
  have hnil : I64 [] := fun y hy => by cases hy
  have hbad : I64 badT.1 ∧ badT.1.length ≤ 4096 := ⟨hnil, by simp [badT]⟩
  unfold takePa
  split
  · exact hbad
  · unfold takeP2
    split
    · exact hbad
    · generalize hB : numR _ = B
      have hBr : I64x B := by rw [← hB]; exact stepR_range 0 _ _ (by unfold I64x; omega) (by omega)
      unfold takeP2b
      split
      · exact hbad
      · unfold takeP3
        split
        · exact hbad
        · have h1 := unpackR_u64 ((b.drop 4).drop (b.getD 2 0 / 32 + 1).toNat) (lookR b).2.2.1 ((wOf (lookR b).2.1).toNat : Int)
          have h2 := unpackR_len ((b.drop 4).drop (b.getD 2 0 / 32 + 1).toNat) (lookR b).2.2.1 ((wOf (lookR b).2.1).toNat : Int)
          generalize (unpackR ((b.drop 4).drop (b.getD 2 0 / 32 + 1).toNat) (lookR b).2.2.1 ((wOf (lookR b).2.1).toNat : Int)).1 = L at *
          have h3 := patchN_u64 (wOf (b.getD 2 0 % 32)).toNat (b.getD 3 0 / 32 + 1).toNat (wOf (lookR b).2.1).toNat L
          unfold takeP4
          split
          · exact hbad
          · rename_i q hq
            obtain ⟨h4, h5⟩ := h3 _ h1 _ q hq
            split
            · refine ⟨fun y hy => ?_, by simp only [sumL, List.length_map]; omega⟩
              obtain ⟨u, hu, rfl⟩ := List.mem_map.1 hy
              exact stepR_range B u false hBr (h4 u hu).1
            · exact hbad
theorem takeR_num (b : List Int) (s : Bool) (hu : U8 b) : I64x (takeR b s).1 := by
  unfold takeR I64x
  split
  · exact ⟨by decide, by decide⟩
  · rename_i c r
    split
    · exact ⟨by decide, by decide⟩
    · split
      · exact ⟨by decide, by decide⟩
      · split
        · exact ⟨by decide, by decide⟩
        · rename_i h1 h2 h3
          have hcu := hu c List.mem_cons_self
          have hl := foldU_lt (r.take (c / 8 + 1).toNat) (fun y hy => hu y (List.mem_cons_of_mem _ (List.mem_of_mem_take hy)))
          have hk : (r.take (c / 8 + 1).toNat).length ≤ 8 := by rw [List.length_take]; omega
          have hp : 256 ^ (r.take (c / 8 + 1).toNat).length ≤ 256 ^ 8 := Nat.pow_le_pow_right (by decide) hk
          have h8 : 256 ^ 8 = 18446744073709551616 := by decide
          generalize foldU (r.take (c / 8 + 1).toNat) = F at *
          generalize 256 ^ (r.take (c / 8 + 1).toNat).length = M at *
          dsimp only
          cases s
          · rw [if_neg (by simp)]
            have : ¬ 9223372036854775808 ≤ F := fun h => h3 (.inr ⟨rfl, h⟩)
            omega
          · rw [if_pos rfl]
            exact zag_range _ (by omega) (by omega)
theorem one_good (b : List Int) (s : Bool) (hu : U8 b) : I64 (oneR b s).1 ∧ (oneR b s).1.length ≤ 4096 := by
  have hnil : I64 [] := fun y hy => by cases hy
  unfold oneR
  split
  · exact ⟨hnil, by simp⟩
  · split
    · have h1 := takeR_num b s hu
      have h2 := (takeR_rest b s hu).2.2
      refine ⟨fun y hy => ?_, by dsimp only; rw [List.length_replicate]; omega⟩
      rw [List.eq_of_mem_replicate hy]
      exact h1
    · split
      · exact takeD_good b s
      · split
        · exact takePa_goodG b s
        · have := takeDe_goodG b s hu
          exact ⟨this.1, by omega⟩
end Go.Proofs.YtbmooemlekckbaaDoor

/- rle.Put. -/
namespace Go.Proofs.YtbmooemlekckbaaDoor
open Go.RowKit

/-- Bytes of the call's own and an error's number are handed back. -/
def BytesOwn (w : World) (l : List Int) (er : Int) (e : Ending) (w' : World) : Prop :=
  ∃ G n c, e = .returned (.tuple #[.slice G n c, .int .i64 er]) ∧ w'.ownsRow w.heap.size 5 1 (.slice G n c) n (l.map (Value.int .u8)) ∧ Below w.heap.size w w'
theorem own_nilB (w : World) (B : Nat) (e : TypeId) (size : Nat) : w.ownsRow B e size (.slice none 0 0) 0 ([].map (Value.int .u8)) := ⟨by simp, .inl ⟨rfl, rfl⟩⟩
theorem BytesOwn.err {w : World} {l : List Int} {er : Int} {e : Ending} {w' : World} (h : BytesOwn w l er e w') : BytesErr w l er e w' := by
  obtain ⟨G, n, c, h1, h2, h3⟩ := h
  exact ⟨G, n, c, h1, Sl.of_own h2, h3⟩
def lenS : Value → Nat
  | .slice _ n _ => n
  | _ => 0
/-- The state while numbers are laid down in runs. -/
def PutGW (w wr : World) (N : Nat) (s : Bool) (res : List Int × Int) (lv v : Value) : Prop :=
  ∃ A m c l o f, lv = .slice A m c ∧ Ri w .i64 A m l ∧ I64 l ∧ m ≤ c ∧ c ≤ 9223372036854775807 ∧ m ≤ N ∧ wr.ownsRow w.heap.size 5 1 v o.length (o.map (Value.int .u8)) ∧ Below w.heap.size w wr ∧ putF s f o l = res ∧ m < f ∧ o.length + 10 * m ≤ 10 * N
theorem I64.take {l : List Int} (h : I64 l) (k : Nat) : I64 (l.take k) := fun y hy => h y (List.mem_of_mem_take hy)
theorem I64.drop {l : List Int} (h : I64 l) (k : Nat) : I64 (l.drop k) := fun y hy => h y (List.mem_of_mem_drop hy)

set_option maxRecDepth 100000 in
set_option maxHeartbeats 2000000 in
theorem PutGl_own (w : World) (A : Option Addr) (n cap : Nat) (l : List Int) (hr : Ri w .i64 A n l) (hu : I64 l) (hc : n ≤ cap) (hm : cap ≤ 9223372036854775807) (hn : n ≤ 1000000) (s : Bool) (r : List Int) (er : Int) (hp : putGl l s = (r, er)) :
    Calls Tryd.prog 13 #[.slice A n cap, .bool s] w (BytesOwn w r er) := by
  have HR := Lib.hid hr; have HU := Lib.hid hu; have HN := Lib.hid hr.len
  clear hr hu
  unfold putGl at hp
  rw [HN.out] at hp
  by_cases hbig : 4096 < n
  · rw [if_pos hbig] at hp
    injection hp with e1 e2
    subst e1 e2
    go_enter Tryd.func13, Tryd.ntmps13
    go_wp2_with fail
    go_ret2
    exact ⟨none, 0, 0, rfl, own_nilB _ _ _ _, Below.refl _ _⟩
  · rw [if_neg hbig] at hp
    have HP := Lib.hid hp
    clear hp
    go_enter Tryd.func13, Tryd.ntmps13
    go_wp2_with fail
    go_loopw [0, 6] (fun b v wr => Hid (PutGW w wr n s (r, er) b v)) (fun b _ _ => lenS b)
    case atStart => exact ⟨A, n, cap, l, [], n + 1, rfl, HR.out, HU.out, hc, hm, Nat.le_refl _, World.ownsRow_nil _ _ _ _, Below.refl _ _, HP.out, Nat.lt_succ_self _, by simp⟩
    case round =>
      obtain ⟨A1, n1, c1, l1, o, f, rfl, hr1, hu1, hc1, hcm1, hn1, ho, hb, hd, hf, hol⟩ := hrel.out
      obtain ⟨G, gc, rfl⟩ := own_form ho
      have hgc := own_cap ho
      have HR1 := Lib.hid hr1; have HU1 := Lib.hid hu1; have HO := Lib.hid ho; have HB := Lib.hid hb; have HL1 := Lib.hid hr1.len
      obtain ⟨f, rfl⟩ : ∃ g, f = g + 1 := ⟨f - 1, by omega⟩
      simp only [putF] at hd
      rw [HL1.out] at hd
      clear hrel hr1 hu1 ho hb
      by_cases h0 : n1 = 0
      · subst h0
        rw [if_pos rfl] at hd
        injection hd with e1 e2
        subst e1 e2
        go_wp2_with fail
        go_ret2
        exact ⟨_, _, _, rfl, HO.out, HB.out⟩
      · rw [if_neg h0] at hd
        obtain ⟨b, of, hA, hbl, _⟩ := HR1.out.all (by omega)
        subst hA
        have HCALL := Lib.hid (Cut_any wr _ n1 c1 l1 (HR1.out.below HB.out) hc1 hcm1 (by omega))
        have hcr := cutL_range l1 (by rw [HL1.out]; omega)
        rw [HL1.out] at hcr
        obtain ⟨K, hK⟩ : ∃ K, K = cutL l1 := ⟨_, rfl⟩
        rw [← hK] at hd HCALL hcr
        have hrc := run_cases (l1.take K) s (HU1.out.take K)
        rw [List.length_take, HL1.out, Nat.min_eq_left (by omega)] at hrc
        obtain ⟨q, e, hq⟩ : ∃ q e, runR (l1.take K) s = (q, e) := ⟨_, _, rfl⟩
        have HQ := Lib.hid hq
        rw [hq] at hd hrc
        clear hq hK
        go_wp2_with fail
        refine HCALL.out.mono ?_; rintro e1 w1 ⟨rfl, hb1⟩
        have HB1 := Lib.hid (on HB.out hb1)
        have HO1 := Lib.hid (own_below HO.out hb1)
        clear hb1
        go_wp2_with fail
        refine (Run_any _ _ K c1 (l1.take K) ((HR1.out.first (by omega)).below HB1.out) (HU1.out.take K) (by omega) hcm1 (by omega) s q e HQ.out).mono ?_; rintro e1 w2 ⟨G2, n2, c2, rfl, hs2, hb2⟩
        have HB2 := Lib.hid (on HB1.out hb2)
        have HO2 := Lib.hid (own_below HO1.out hb2)
        have HS2 := Lib.hid hs2
        have hn2 := hs2.1.len
        have hz2 := HB2.out.size
        clear hb2 hs2
        rcases hrc with h | ⟨q', h, hql⟩
        · injection h with h1 h2
          subst h1 h2
          rw [if_pos (by decide)] at hd
          injection hd with e1 e2
          subst e1 e2
          go_wp2_with fail
          go_ret2
          exact ⟨none, 0, 0, rfl, own_nilB _ _ _ _, HB2.out⟩
        · injection h with h1 h2
          subst h1 h2
          rw [if_neg (by simp)] at hd
          have HD := Lib.hid hd
          clear hd
          go_upto_region 9 with fail
          go_region_law (first
            | (refine step_u8o rfl (.tmp 29) (.tmp 30) rfl w.heap.size _ o.length o (by kernel_rfl) (by first | exact HO2.out.drew | exact HO2.out) _ n2 c2 q (by kernel_rfl) (by first | exact HS2.out.1.drew | exact HS2.out.1) (by omega) (by simp; omega) ?_; intro G3 c3 w3 hown hgr hat; have HOWN := Lib.hid hown; have HB3 := Lib.hid (below_of_grown (by first | exact HB2.out.drew | exact HB2.out) hgr (by simp; omega) (fun k hk => (HO2.out.lt k hk).1)); clear hown hgr hat))
          all_goals
            go_wp2_with fail
          all_goals
            refine ⟨⟨_, _, _, _, Lib.hid ⟨_, _, _, l1.drop K, o ++ q, f, rfl, ?_, HU1.out.drop K, by omega, by omega, by omega, ?_, HB3.out, HD.out, by omega, ?_⟩, rfl, rfl, rfl, rfl⟩, ?_⟩
            · first
                | exact HR1.out.rest (by omega) (fun _ => rfl)
                | exact (HR1.out.rest (i := K) (by omega) (fun _ => rfl)).zero (by omega) _
            · rw [List.length_append, hn2]
              exact HOWN.out
            · rw [List.length_append, hn2]
              omega
            · show n1 - K < n1
              omega
theorem PutGl_any (w : World) (A : Option Addr) (n cap : Nat) (l : List Int) (hr : Ri w .i64 A n l) (hu : I64 l) (hc : n ≤ cap) (hm : cap ≤ 9223372036854775807) (hn : n ≤ 1000000) (s : Bool) (r : List Int) (er : Int) (hp : putGl l s = (r, er)) :
    Calls Tryd.prog 13 #[.slice A n cap, .bool s] w (BytesErr w r er) :=
  (PutGl_own w A n cap l hr hu hc hm hn s r er hp).mono fun _ _ h => h.err
end Go.Proofs.YtbmooemlekckbaaDoor

/- rle.Take. -/
namespace Go.Proofs.YtbmooemlekckbaaDoor
open Go.RowKit

/-- The state while runs are taken. -/
def TakeGW (w wr : World) (N M : Nat) (s : Bool) (res : List Int × List Int × Int) (bv v : Value) : Prop :=
  ∃ A m c l o f, bv = .slice A m c ∧ Ri wr .u8 A m l ∧ U8 l ∧ m ≤ c ∧ c ≤ 9223372036854775807 ∧ m ≤ N ∧ wr.ownsRow w.heap.size 3 1 v o.length (o.map (Value.int .i64)) ∧ Ints wr v ∧ Below w.heap.size w wr ∧ takeF s M f o l = res ∧ m < f ∧ o.length ≤ M

set_option maxRecDepth 100000 in
set_option maxHeartbeats 2000000 in
theorem TakeGl_any (w : World) (A : Option Addr) (n cap : Nat) (b : List Int) (hr : Ri w .u8 A n b) (hu : U8 b) (hc : n ≤ cap) (hm : cap ≤ 9223372036854775807) (hn : n ≤ 100000) (many : Int) (s : Bool) (l r : List Int) (er : Int) (hp : takeGl b many s = (l, r, er)) :
    Calls Tryd.prog 25 #[.slice A n cap, .int .i64 many, .bool s] w (TakeOutD w l r er) := by
  have HR := Lib.hid hr; have HU := Lib.hid hu; have HN := Lib.hid hr.len
  clear hr hu
  unfold takeGl at hp
  by_cases hbad : many < 0 ∨ 4096 < many
  · rw [if_pos hbad] at hp
    injection hp with e1 e2; injection e2 with e2 e3
    subst e1 e2 e3
    rcases hbad with hbad | hbad
    all_goals
      go_enter Tryd.func25, Tryd.ntmps25
      go_wp2_with fail
      refine bodyPost_ret (results_tmp3 rfl _ _ _) rfl ?_
      exact ⟨none, 0, 0, none, 0, 0, rfl, Sl.nil _ _, Sl.nil _ _, Below.refl _ _⟩
  · rw [if_neg hbad] at hp
    obtain ⟨M, rfl⟩ := Int.eq_ofNat_of_zero_le (show 0 ≤ many by omega)
    have hM : M ≤ 4096 := by omega
    rw [Int.toNat_natCast, HN.out] at hp
    have HP := Lib.hid hp
    clear hp hbad
    go_enter Tryd.func25, Tryd.ntmps25
    go_wp2_with fail
    go_loopw [0, 9] (fun bv v wr => Hid (TakeGW w wr n M s (l, r, er) bv v)) (fun bv _ _ => lenS bv)
    case atStart => exact ⟨A, n, cap, b, [], n + 1, rfl, HR.out, HU.out, hc, hm, Nat.le_refl _, World.ownsRow_nil _ _ _ _, Ints.nil _ _ _, Below.refl _ _, HP.out, Nat.lt_succ_self _, by simp⟩
    case round =>
      obtain ⟨A1, n1, c1, b1, o, f, rfl, hr1, hu1, hc1, hcm1, hn1, ho, hi, hb, hd, hf, hol⟩ := hrel.out
      obtain ⟨G, gc, rfl⟩ := own_form ho
      have hgc := own_cap ho
      have HR1 := Lib.hid hr1; have HU1 := Lib.hid hu1; have HO := Lib.hid ho; have HI := Lib.hid hi; have HB := Lib.hid hb; have HL1 := Lib.hid hr1.len
      obtain ⟨f, rfl⟩ : ∃ g, f = g + 1 := ⟨f - 1, by omega⟩
      simp only [takeF] at hd
      clear hrel hr1 hu1 ho hi hb
      by_cases hge : M ≤ o.length
      · obtain rfl : o.length = M := by omega
        rw [if_pos hge] at hd
        injection hd with e1 e2; injection e2 with e2 e3
        subst e1 e2 e3
        go_wp2_with fail
        refine (Clone_any _ _ _ _ _ HR1.out (by omega)).mono ?_; rintro e w2 ⟨G2, n2, c2, rfl, hr2, hb2⟩
        go_wp2_with fail
        refine bodyPost_ret (results_tmp3 rfl _ _ _) rfl ?_
        exact ⟨_, _, _, G2, n2, c2, rfl, (Sl.of_own HO.out).below hb2, hr2, on HB.out hb2⟩
      · rw [if_neg hge] at hd
        have hres := one_rest b1 s HU1.out
        have hgood := (one_good b1 s HU1.out).2
        obtain ⟨l2, r2, e2, hone⟩ : ∃ l r e, oneR b1 s = (l, r, e) := ⟨_, _, _, rfl⟩
        rw [hone] at hd hres hgood
        dsimp only at hd hres hgood
        have HONE := Lib.hid hone
        have HU2 := Lib.hid hres.1
        have hres2 := hres.2
        rw [HL1.out] at hres2
        clear hone hres
        go_wp2_with fail
        refine (one_any _ _ _ _ b1 HR1.out HU1.out hc1 hcm1 (by omega) s l2 r2 e2 HONE.out).mono ?_; rintro e w2 ⟨G2, n2, c2, G3, n3, c3, rfl, hs2, hs3, hb2⟩
        have HB2 := Lib.hid (on HB.out hb2); have HO2 := Lib.hid (own_below HO.out hb2); have HI2 := Lib.hid (HI.out.below hb2)
        have HS2 := Lib.hid hs2; have HS3 := Lib.hid hs3.1
        have hn2 := hs2.1.len; have hn3 := hs3.1.len; have hc3 := hs3.2
        have hz2 := HB2.out.size
        clear hs2 hs3 hb2
        by_cases he : e2 = 0
        · subst he
          have hlt3 := hres2 rfl
          by_cases hov : M < o.length + l2.length
          · rw [if_pos (.inr hov)] at hd
            injection hd with e1 e2; injection e2 with e2 e3
            subst e1 e2 e3
            rw [hn2] at hov
            go_wp2_with fail
            refine bodyPost_ret (results_tmp3 rfl _ _ _) rfl ?_
            exact ⟨none, 0, 0, none, 0, 0, rfl, Sl.nil _ _, Sl.nil _ _, HB2.out⟩
          · rw [if_neg (by rintro (h | h); exact h rfl; exact hov h)] at hd
            rw [hn2] at hov hgood
            have HD := Lib.hid hd
            clear hd hres2
            go_wp2_with (at_builtin; refine wpList_ints _ rfl _ _ rfl w.heap.size _ o.length o rfl HO2.out HI2.out _ n2 c2 l2 rfl HS2.out.1 (by omega) hz2 ?_; intro G4 c4 w4 hown hgr hint)
            have HOWN := Lib.hid hown; have HINT := Lib.hid hint; have HR4 := Lib.hid (HI2.out.keep HS3.out hgr); have HB4 := Lib.hid (push0 HB2.out (Nat.le_refl _) HO2.out hgr)
            clear hown hgr hint
            all_goals
              go_wp2_with fail
            all_goals
              refine ⟨⟨_, _, _, r2, o ++ l2, f, rfl, HR4.out, HU2.out, hc3.1, hc3.2, by omega, ?_, HINT.out, HB4.out, HD.out, by omega, ?_⟩, ?_⟩
              · rw [List.length_append, hn2]
                exact HOWN.out
              · rw [List.length_append, hn2]
                omega
              · show n3 < n1
                omega
        · rw [if_pos (.inl he)] at hd
          injection hd with e1 e2; injection e2 with e2 e3
          subst e1 e2 e3
          have heb : (e2 == 0) = false := by simp [he]
          go_wp2_with fail
          refine bodyPost_ret (results_tmp3 rfl _ _ _) rfl ?_
          exact ⟨none, 0, 0, none, 0, 0, rfl, Sl.nil _ _, Sl.nil _ _, HB2.out⟩
end Go.Proofs.YtbmooemlekckbaaDoor

/- Rle: plain: what is taken are numbers, and not too many. -/
namespace Go.Proofs.YtbmooemlekckbaaDoor
open Go.RowKit

theorem takeF_good (s : Bool) (many : Nat) : ∀ (f : Nat) (out b : List Int), U8 b → I64 out → out.length ≤ many → I64 (takeF s many f out b).1 ∧ (takeF s many f out b).1.length ≤ many := by
  have hnil : I64 [] := fun y hy => by cases hy
  intro f
  induction f with
  | zero => intro out b _ _ _; exact ⟨hnil, Nat.zero_le _⟩
  | succ f ih =>
    intro out b hb ho hl
    rw [takeF]
    split
    · exact ⟨ho, hl⟩
    · split
      · exact ⟨hnil, Nat.zero_le _⟩
      · rename_i h
        have h1 := one_good b s hb
        have h2 := one_rest b s hb
        refine ih _ _ h2.1 (fun y hy => ?_) (by rw [List.length_append]; omega)
        rcases List.mem_append.1 hy with h3 | h3
        · exact ho y h3
        · exact h1.1 y h3
theorem takeGl_good (b : List Int) (many : Int) (s : Bool) (hb : U8 b) : I64 (takeGl b many s).1 ∧ (takeGl b many s).1.length ≤ 4096 := by
  unfold takeGl
  split
  · exact ⟨fun y hy => (by cases hy), Nat.zero_le _⟩
  · have := takeF_good s many.toNat (b.length + 1) [] b hb (fun y hy => (by cases hy)) (Nat.zero_le _)
    exact ⟨this.1, by omega⟩
end Go.Proofs.YtbmooemlekckbaaDoor

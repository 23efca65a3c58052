/- The walk through DeltaTakes. -/
import Derived.Test.YtpgkbcgjjmdfiaaShown9
import Derived.Test.YtpgkbcgjjmdfiaaRefDTakeA
import Derived.Test.YtpgkbcgjjmdfiaaSame8
namespace Go.Proofs.Ytpgkbcgjjmdfiaa
open Go.RowKit

theorem stepsDe_some (f s : Bool) (Z : List Int) : ∀ (x : Int) (l : List Int), I64x x → (∀ u ∈ Z, 0 ≤ u) → stepsDe f s x Z = some l → I64 l ∧ l.length = Z.length := by
  induction Z with
  | nil => intro x l _ _ h; rw [stepsDe_nil] at h; injection h with h; subst h; exact ⟨fun y hy => (by cases hy), rfl⟩
  | cons u t ih =>
    intro x l hx hz h
    simp only [stepsDe] at h
    split at h
    · rw [Option.map_eq_some_iff] at h
      obtain ⟨l2, h2, rfl⟩ := h
      have hy := stepR_range x u f hx (hz u List.mem_cons_self)
      obtain ⟨h3, h4⟩ := ih _ l2 hy (fun v hv => hz v (List.mem_cons_of_mem _ hv)) h2
      refine ⟨fun y hy2 => ?_, by simp [h4]⟩
      rcases List.mem_cons.1 hy2 with rfl | hy2
      · exact hy
      · exact h3 y hy2
    · cases h
theorem takeDe_good (b : List Int) (s : Bool) (hu : U8 b) : I64 (takeDe b s).1 ∧ (takeDe b s).1.length ≤ 513 := by
  have hnil : I64 [] := fun y hy => by cases hy
  have hlk := lookR_more b hu
  obtain ⟨k, c, m, r0, e0, h1⟩ : ∃ k c m r0 e0, lookR b = (k, c, m, r0, e0) := ⟨_, _, _, _, _, rfl⟩
  rw [h1] at hlk
  obtain ⟨hu0, he0, hc0, hc1, hm0, hm1⟩ := hlk
  dsimp only at hu0 he0 hc0 hc1 hm0 hm1
  have ht1r := takeI_range r0 s
  obtain ⟨x, r1, e1, h2⟩ : ∃ x r1 e1, takeI r0 s = (x, r1, e1) := ⟨_, _, _, rfl⟩
  rw [h2] at ht1r
  obtain ⟨fi, r2, e2, h3⟩ : ∃ fi r2 e2, takeI r1 true = (fi, r2, e2) := ⟨_, _, _, rfl⟩
  have hdr := diffR_range 0 fi
  obtain ⟨sz, fl, ok, h4⟩ : ∃ sz fl ok, diffR 0 fi = (sz, fl, ok) := ⟨_, _, _, rfl⟩
  rw [h4] at hdr
  have hul := unpackR_u64 r2 (m - 2) (wOf c); have hum := unpackR_many r2 (m - 2) (wOf c)
  obtain ⟨L, r3, e3, h5⟩ : ∃ L r3 e3, unpackR r2 (m - 2) (wOf c) = (L, r3, e3) := ⟨_, _, _, rfl⟩
  rw [h5] at hul hum
  dsimp only at hdr hul hum ht1r
  rw [takeDe_eq h1 h2 h3 h4 h5]
  split
  · exact ⟨hnil, by simp⟩
  · split
    · exact ⟨hnil, by simp⟩
    · split
      · exact ⟨hnil, by simp⟩
      · split
        · exact ⟨hnil, by simp⟩
        · split
          · exact ⟨hnil, by simp⟩
          · rename_i hb1 _ _ _ hb5
            have hzz : ∀ u ∈ (if 0 < c then sz :: L else List.replicate (m - 1).toNat sz), 0 ≤ u := by
              intro u hu
              split at hu
              · rcases List.mem_cons.1 hu with rfl | hu
                · exact hdr.1
                · exact (hul u hu).1
              · rw [List.eq_of_mem_replicate hu]; exact hdr.1
            have hzl : (if 0 < c then sz :: L else List.replicate (m - 1).toNat sz).length ≤ 512 := by
              split
              · rename_i hc
                have he3 : e3 = 0 := by
                  rcases Classical.em (e3 = 0) with h | h
                  · exact h
                  · exact absurd ⟨hc, h⟩ hb5
                have := hum he3
                simp only [List.length_cons]; omega
              · rw [List.length_replicate]; omega
            cases hst : stepsDe fl s x (if 0 < c then sz :: L else List.replicate (m - 1).toNat sz) with
            | none => exact ⟨hnil, by simp [finDe]⟩
            | some l =>
              obtain ⟨h6, h7⟩ := stepsDe_some fl s _ x l ht1r hzz hst
              refine ⟨fun y hy => ?_, by simp only [finDe, List.length_cons]; omega⟩
              rcases List.mem_cons.1 hy with rfl | hy
              · exact ht1r
              · exact h6 y hy
theorem cut_ri9 {w : World} {kd : IntKind} {A : Option Addr} {n : Nat} {l : List Int} (h : Ri w kd A n l) (K : Nat) :
    (K < n ∧ (∃ b o, A = some ⟨b, o, none⟩) ∧ Ri w kd A K (l.take K)) ∨ (n ≤ K ∧ Ri w kd A n (l.take K)) := by
  rcases Nat.lt_or_ge K n with h1 | h1
  · obtain ⟨b, o, e, _⟩ := h.all (by omega)
    exact .inl ⟨h1, ⟨b, o, e⟩, h.first (by omega)⟩
  · exact .inr ⟨h1, by rw [List.take_of_length_le (by rw [h.len]; exact h1)]; exact h⟩

set_option maxRecDepth 100000 in
set_option maxHeartbeats 2000000 in
theorem DeltaTakes_walk (w : World) (A : Option Addr) (n cap : Nat) (b : List Int) (hr : Ri w .u8 A n b) (hu : U8 b) (hc : n ≤ cap) (hm : cap ≤ maxLen) (s : Bool) :
    Calls Try.prog 6 #[.slice A n cap, .bool s] w fun e w' => e = .returned (.bool true) ∧ Below w.heap.size w w' := by
  unfold maxLen at hm
  have HU := Lib.hid (hu.take 1000)
  obtain ⟨l, r, er, hl⟩ : ∃ l r er, takeDe (b.take 1000) s = (l, r, er) := ⟨_, _, _, rfl⟩
  have hg := takeDe_good (b.take 1000) s (hu.take 1000)
  rw [hl] at hg
  obtain ⟨hg1, hg2⟩ := hg
  dsimp only at hg2
  have HG := Lib.hid hg1; have HL := Lib.hid hl
  clear hg1 hl hu
  rcases cut_ri9 hr 1000 with ⟨h1, ⟨bb, oo, rfl⟩, h2⟩ | ⟨h1, h2⟩
  all_goals
    have H2 := Lib.hid h2
    clear hr h2
    go_enter Try.func6, Try.ntmps6
    go_wp2_with fail
    refine (shown09_any _).mono ?_; rintro e w1 ⟨rfl, hb1⟩
    have HB1 := Lib.hid hb1; clear hb1
    go_wp2_with (at_builtin; refine wpList_u8 _ rfl _ _ rfl w1.heap.size _ 0 [] rfl (own_empty w1 _ 1) _ _ _ (b.take 1000) rfl ((H2.out.below HB1.out).alloc _) (by omega) (by simp) ?_; intro G3 c3 w3 hown hgr hcc)
    have hb3 := push0 ((Below.refl w1.heap.size w1).alloc (Nat.le_refl _) _) (Nat.le_refl _) (own_empty w1 _ 1) hgr
    rw [Nat.zero_add, List.nil_append] at hown
    have hs3 := Sl.of_own hown
    have HO := Lib.hid hs3
    have HB3 := Lib.hid hb3
    clear hown hgr hcc hs3 hb3
    refine (DeTake_any _ _ _ _ (b.take 1000) HO.out.1 HU.out HO.out.2.1 HO.out.2.2 (by omega) s l r er HL.out).mono ?_; rintro e w4 ⟨G4, n4, c4, G5, n5, c5, rfl, hs4, hs5, hb4⟩
    go_wp2_with fail
    refine (refDeTake_any _ _ _ _ (b.take 1000) (((H2.out.below HB1.out).below HB3.out).below hb4) HU.out (by omega) (by omega) (by omega) s l r er HL.out).mono ?_; rintro e w5 ⟨G6, n6, c6, G7, n7, c7, rfl, hs6, hs7, hb5⟩
    have q4 := hs4.1.len; have q6 := hs6.1.len
    go_wp2_with fail
    refine (Same8_any _ _ _ _ _ _ _ l l (hs4.1.below hb5) hs6.1 (by omega) (by omega) HG.out HG.out).mono ?_; rintro e w6 ⟨rfl, hb6⟩
    rw [decide_eq_true rfl]
    have cv1 := conv_any (c := c5) ((hs5.1.below hb5).below hb6)
    have cv2 := conv_any (c := c7) (hs7.1.below hb6)
    have st := strOf_same r
    generalize strOf r = S at *
    have HB := Lib.hid (on (on (on (on HB1.out HB3.out) hb4) hb5) hb6)
    clear hs4 hs5 hs6 hs7 hb4 hb5 hb6 q4 q6
    go_wp2_with fail
    go_ret
    exact ⟨rfl, HB.out⟩
end Go.Proofs.Ytpgkbcgjjmdfiaa

/- Joined texts: GlRun. Each has its own head line. No condition beyond those that its theorems state. -/
import Derived.Lib.SliceRun
import Derived.Test.YtmejoococajikaaJ29
import Derived.Test.YtmejoococajikaaJ32
import Derived.Test.YtmejoococajikaaJ36
set_option linter.unusedVariables false

/- rle.Run. -/
namespace Go.Proofs.Ytmejoococajikaa
open Go.RowKit

/-- The shortest run so far: none, or bytes. -/
def OutV (w : World) (v : Value) (p : List Int) : Prop :=
  (p = [] ∧ v = .slice none 0 0) ∨ ∃ b o n c, v = .slice (some ⟨b, o, none⟩) n c ∧ 1 ≤ n ∧ Sl w .u8 (some ⟨b, o, none⟩) n c p
theorem OutV.below {w w' : World} {v : Value} {p : List Int} (h : OutV w v p) (hb : Below w.heap.size w w') : OutV w' v p := by
  rcases h with h | ⟨b, o, n, c, h1, h2, h3⟩
  · exact .inl h
  · exact .inr ⟨b, o, n, c, h1, h2, h3.below hb⟩
theorem OutV.sl {w : World} {v : Value} {p : List Int} (h : OutV w v p) : ∃ G n c, v = .slice G n c ∧ Sl w .u8 G n c p := by
  rcases h with ⟨h1, h2⟩ | ⟨b, o, n, c, h1, h2, h3⟩
  · subst h1; exact ⟨_, _, _, h2, Sl.nil _ _⟩
  · exact ⟨_, _, _, h1, h3⟩

theorem store_fn (w : World) (kf : FuncId) (caps : Array Value) (t : TypeId) : Sem.run Try.prog (store ⟨w.heap.size, 0, none⟩ (.func (.func kf) #[] caps)) (w.alloc (.cells #[.nilFunc] t)) = .ok () (w.alloc (.cells #[.func (.func kf) #[] caps] t)) := by
  rw [run_store Try.prog _ _ _ _ rfl]
  simp [World.setCell_alloc_new]
set_option maxRecDepth 100000 in
set_option maxHeartbeats 1000000 in
theorem kindFn_any (w : World) (h c : Nat) (hb : Ri w .i64 (some ⟨h, 0, none⟩) 1 [(c : Int)]) (A : Option Addr) (n cap : Nat) (l : List Int) (hr : Ri w .i64 A n l) (hu : I64 l) (hcap : n ≤ cap) (hm : cap ≤ 9223372036854775807) (hn : n ≤ 100000) (s : Bool) (r : List Int) (er : Int) (hl : putPa l (wOf c) s = (r, er)) :
    Calls Try.prog 90 #[.slice A n cap, .bool s, .pointer (some ⟨h, 0, none⟩)] w (BytesErr w r er) := by
  obtain ⟨b2, o2, e, hlt, h7⟩ := hb.all (by omega)
  injection e with e; injection e with e1 e2; subst e1 e2
  have g0 : w.cell? ⟨h, 0, none⟩ = some (.int .i64 (c : Int)) := h7 0 (by omega)
  have HR := Lib.hid hr; have HU := Lib.hid hu; have HL := Lib.hid hl
  have hwr := wOf_range (c : Int)
  clear hr hu hl h7 hb
  go_enter Try.func90, Try.ntmps90
  go_wp2_with fail
  refine (Of_any _ _).mono ?_; rintro e w2 ⟨rfl, hb2⟩
  have HB2 := Lib.hid hb2; clear hb2
  go_wp2_with fail
  refine (PPut_any _ _ _ _ l (HR.out.below HB2.out) HU.out hcap hm hn (wOf c) (by unfold I64x; omega) s r er HL.out).mono ?_; rintro e w3 ⟨G, n3, c3, rfl, hs3, hb3⟩
  go_wp2_with fail
  go_ret2
  exact ⟨_, _, _, rfl, hs3, on HB2.out hb3⟩

set_option maxRecDepth 100000 in
set_option maxHeartbeats 2000000 in
theorem Run_any (w : World) (A : Option Addr) (n cap : Nat) (l : List Int) (hr : Ri w .i64 A n l) (hu : I64 l) (hcap : n ≤ cap) (hm : cap ≤ 9223372036854775807) (hn : n ≤ 100000) (s : Bool) (r : List Int) (er : Int) (hl : runR l s = (r, er)) :
    Calls Try.prog 46 #[.slice A n cap, .bool s] w (BytesErr w r er) := by
  have HR := Lib.hid hr; have HU := Lib.hid hu; have HN := Lib.hid hr.len; have HL := Lib.hid hl
  clear hr hu hl
  have qT : ∀ (w : World) (a : Option Addr) (n c n' c' : Nat), (binOp .eql 49 (.slice a n c) (.slice none n' c')).run Try.prog w = .ok (.bool a.isNone) w := fun w a n c n' c' => Lib.run_eql_slice_nil w _ _ a n c n' c' Try.underlying49
  go_enter Try.func46, Try.ntmps46
  go_upto_region 1 with fail
  go_cut [27] (fun v wx => v = .bool (badRun l s) ∧ wx = w)
  case first =>
    have hpre : badRun l s = (decide (n < 1) || decide (512 < n) || (!s && l.any fun y => decide (y < 0))) := by unfold badRun; rw [HN.out]
    by_cases h1 : n < 1
    · have HP : Hid (badRun l s = true) := Lib.hid (by rw [hpre, decide_eq_true h1]; rfl)
      clear hpre
      go_wp2_with fail
      go_meet
      exact ⟨by rw [HP.out], rfl⟩
    · by_cases h2 : 512 < n
      · have HP : Hid (badRun l s = true) := Lib.hid (by rw [hpre, decide_eq_true h2]; simp)
        clear hpre
        go_wp2_with fail
        go_meet
        exact ⟨by rw [HP.out], rfl⟩
      · have hmin := minL_neg l (by rw [HN.out]; omega)
        obtain ⟨M, hM⟩ : ∃ M, M = minL l := ⟨_, rfl⟩
        rw [← hM] at hmin
        have HM := Lib.hid hM
        clear hM
        have hpre3 : badRun l s = (!s && decide (M < 0)) := by
          rw [hpre, decide_eq_false h1, decide_eq_false h2]
          have h3 : (l.any fun y => decide (y < 0)) = decide (M < 0) := by
            cases h4 : (l.any fun y => decide (y < 0))
            · exact (decide_eq_false (fun h => by rw [hmin.1 h] at h4; cases h4)).symm
            · exact (decide_eq_true (hmin.2 h4)).symm
          rw [h3]; rfl
        have HP := Lib.hid hpre3
        clear hpre hmin hpre3
        cases s
        · go_wp2_with fail
          refine (Min_any _ _ _ _ l HR.out (by omega) (by omega)).mono ?_; rintro e w' ⟨rfl, rfl⟩
          rw [← HM.out]
          go_wp2_with fail
          go_meet
          exact ⟨by rw [HP.out, decide_eq_false (show ¬ (n : Int) < 1 by omega), decide_eq_false (show ¬ 512 < (n : Int) by omega)]; rfl, rfl⟩
        · go_wp2_with fail
          go_meet
          exact ⟨by rw [HP.out, decide_eq_false (show ¬ (n : Int) < 1 by omega), decide_eq_false (show ¬ 512 < (n : Int) by omega)]; rfl, rfl⟩
  case rest =>
    obtain ⟨rfl, hw⟩ := hcut
    subst hw
    cases hpre : badRun l s
    · have hL : Hid (runK l s 34 = r ∧ (0 : Int) = er) := by
        have h := HL.out
        unfold runR at h
        rw [hpre, if_neg (by simp)] at h
        injection h with h1 h2
        exact ⟨h1, h2⟩
      have hfa : 1 ≤ n ∧ n ≤ 512 := by
        unfold badRun at hpre
        simp only [Bool.or_eq_false_iff, decide_eq_false_iff_not, HN.out] at hpre
        omega
      clear HL hpre
      go_wp2_with fail
      refine (kinds_any _).mono ?_; rintro e w1 ⟨bk, ok, ck, cs, rfl, hck, hbk, hkl, hcs, hb1⟩
      have HKL := Lib.hid hkl; have HCS := Lib.hid hcs; have HB1 := Lib.hid hb1
      clear hkl hcs hb1
      go_wp2_with fail
      go_loopw [6, 30] (fun v i wr => ∃ j : Nat, j ≤ 34 ∧ i = .int .i64 j ∧ Hid (OutV wr v (runK l s j)) ∧ Hid (Below w1.heap.size w1 wr)) (fun _ i _ => 34 - (intOf i).toNat)
      case atStart => exact ⟨0, by omega, rfl, Lib.hid (.inl ⟨rfl, rfl⟩), Below.refl _ _⟩
      case round =>
        obtain ⟨j, hj, rfl, hov, hb⟩ := hrel
        by_cases hlt : j < 34
        · obtain ⟨v, hv⟩ : ∃ v, cs[j]? = some v := ⟨_, List.getElem?_eq_getElem (by rw [HKL.out.1]; exact hlt)⟩
          have hkind := HKL.out.2 j v hv
          have hcv := (hb.out.cell (p := ⟨bk, ok + j, none⟩) hbk).trans (HCS.out j v hv)
          have HRR := Lib.hid ((HR.out.below HB1.out).below hb.out)
          have hz := hb.out.size
          obtain ⟨kf, caps, rfl⟩ : ∃ kf caps, v = .func (.func kf) #[] caps := by
            rcases hkind with ⟨_, h⟩ | ⟨_, h⟩ | ⟨_, h⟩ | ⟨_, _, _, h, _⟩ <;> exact ⟨_, _, h⟩
          have HKIND := Lib.hid hkind
          clear hv hkind
          have hst : Sem.run Try.prog (store ⟨wr.heap.size, 0, none⟩ (.func (.func kf) #[] caps)) (wr.alloc (.cells #[.nilFunc] 99)) = .ok () (wr.alloc (.cells #[.func (.func kf) #[] caps] 99)) := store_fn wr kf caps _
          go_upto_region 7 with fail
          clear hst
          have hbk2 := hb.out.alloc (by omega) (.cells #[.func (.func kf) #[] caps] 99)
          have HBA := Lib.hid hbk2
          have hz2 := hbk2.size
          have c0 : (wr.alloc (.cells #[.func (.func kf) #[] caps] 99)).cell? ⟨wr.heap.size, 0, none⟩ = some (.func (.func kf) #[] caps) := by simp
          have HRA := Lib.hid (HRR.out.alloc (.cells #[.func (.func kf) #[] caps] 99))
          have hova : OutV (wr.alloc (.cells #[.func (.func kf) #[] caps] 99)) _ _ := hov.out.below ((Below.refl _ _).alloc (Nat.le_refl _) _)
          have HOV := Lib.hid hova
          obtain ⟨H, hH⟩ : ∃ H, H = wr.heap.size := ⟨_, rfl⟩
          rw [← hH] at c0 ⊢
          obtain ⟨wa, hwa⟩ : ∃ wa, wa = wr.alloc (.cells #[.func (.func kf) #[] caps] 99) := ⟨_, rfl⟩
          rw [← hwa] at HBA hz2 c0 HRA HOV ⊢
          clear hwa hH hbk2 hova hov hb HRR hcv hz
          go_cut [9, 10] (fun v9 v10 wx => ∃ (p : List Int) (er : Int) (G : Option Addr) (n4 c4 : Nat), candR l s j = (p, er) ∧ v9 = .slice G n4 c4 ∧ v10 = .int .i64 er ∧ Hid (Sl wx .u8 G n4 c4 p) ∧ Hid (Below wa.heap.size wa wx))
          case first =>
            have hcand : candR l s j = if j = 0 then timesR l s else if j = 1 then putD l s else if j = 2 then putDe l s else putPa l (wOf ((j - 3 : Nat) : Int)) s := rfl
            obtain ⟨p0, e0, hpe⟩ : ∃ p0 e0, candR l s j = (p0, e0) := ⟨_, _, rfl⟩
            have HPE := Lib.hid hpe
            rw [hcand] at hpe
            clear hcand
            rcases HKIND.out with ⟨rfl, h⟩ | ⟨rfl, h⟩ | ⟨rfl, h⟩ | ⟨cc, hh, rfl, h, hbox⟩
            · cases h
              rw [if_pos rfl] at hpe
              have HC := Lib.hid hpe
              clear hpe
              go_wp2_with fail
              refine (times_any _ _ _ _ l HRA.out HU.out (by omega) (by omega) s p0 e0 HC.out).mono ?_; rintro e w4 ⟨G4, n4, c4, rfl, hs4, hb4⟩
              have HS4 := Lib.hid hs4; have HB4 := Lib.hid hb4
              clear hs4 hb4
              go_wp2_with fail
              go_meet
              exact ⟨_, _, _, _, _, HPE.out, rfl, rfl, HS4, HB4⟩
            · cases h
              rw [if_neg (by decide), if_pos rfl] at hpe
              have HC := Lib.hid hpe
              clear hpe
              go_wp2_with fail
              refine (DPut_any _ _ _ _ l HRA.out HU.out (by omega) s p0 e0 HC.out).mono ?_; rintro e w4 ⟨G4, n4, c4, rfl, hs4, hb4⟩
              have HS4 := Lib.hid hs4; have HB4 := Lib.hid hb4
              clear hs4 hb4
              go_wp2_with fail
              go_meet
              exact ⟨_, _, _, _, _, HPE.out, rfl, rfl, HS4, HB4⟩
            · cases h
              rw [if_neg (by decide), if_neg (by decide), if_pos rfl] at hpe
              have HC := Lib.hid hpe
              clear hpe
              go_wp2_with fail
              refine (DePut_any _ _ _ _ l HRA.out HU.out hcap hm hn s p0 e0 HC.out).mono ?_; rintro e w4 ⟨G4, n4, c4, rfl, hs4, hb4⟩
              have HS4 := Lib.hid hs4; have HB4 := Lib.hid hb4
              clear hs4 hb4
              go_wp2_with fail
              go_meet
              exact ⟨_, _, _, _, _, HPE.out, rfl, rfl, HS4, HB4⟩
            · cases h
              rw [if_neg (by omega), if_neg (by omega), if_neg (by omega), Nat.add_sub_cancel] at hpe
              have HC := Lib.hid hpe
              have HBX := Lib.hid (hbox.below HBA.out)
              clear hpe hbox
              go_wp2_with fail
              refine (kindFn_any _ hh cc HBX.out _ _ _ l HRA.out HU.out hcap hm hn s p0 e0 HC.out).mono ?_; rintro e w4 ⟨G4, n4, c4, rfl, hs4, hb4⟩
              have HS4 := Lib.hid hs4; have HB4 := Lib.hid hb4
              clear hs4 hb4
              go_wp2_with fail
              go_meet
              exact ⟨_, _, _, _, _, HPE.out, rfl, rfl, HS4, HB4⟩
          case rest =>
            obtain ⟨p, e, G4, n4, c4, hc, rfl, rfl, hs4, hb4⟩ := hcut
            have hstep : runK l s (j + 1) = shortR (runK l s j) (p, e) := by rw [← hc]; rfl
            have HNE := Lib.hid (fun (h : e = 0) => cand_ne l s HU.out j p (by rw [hc, h]))
            have HO2 := Lib.hid (HOV.out.below hb4.out)
            have HB2 := Lib.hid (on HBA.out hb4.out)
            have hn4 := hs4.out.1.len
            clear hc hb4 c0 HKIND
            unfold shortR at hstep
            by_cases he : e = 0
            · subst he
              have hp1 := HNE.out rfl
              have hn41 : 1 ≤ n4 := by omega
              obtain ⟨b4, o4, hA4, _, _⟩ := hs4.out.1.all (by omega)
              subst hA4
              rcases HO2.out with ⟨h1, rfl⟩ | ⟨b5, o5, n5, c5, rfl, h5, hs5⟩
              · rw [if_pos ⟨rfl, .inl h1⟩] at hstep
                have HST := Lib.hid hstep
                clear hstep
                go_wp2_with fail
                go_roundw
                case rel => exact ⟨j + 1, by omega, by go_num, by rw [HST.out]; exact Lib.hid (.inr ⟨_, _, _, _, rfl, by omega, hs4.out⟩), HB2⟩
                case measure => simp [intOf] <;> omega
              · have hl5 := hs5.1.len
                have hne5 : runK l s j ≠ [] := fun h => by rw [h] at hl5; simp at hl5; omega
                by_cases hlt2 : p.length < (runK l s j).length
                · rw [if_pos ⟨rfl, .inr hlt2⟩] at hstep
                  have HST := Lib.hid hstep
                  have hlt3 : n4 < n5 := by omega
                  clear hstep hlt2 hl5 hn4 hs5
                  go_wp2_with fail
                  go_roundw
                  case rel => exact ⟨j + 1, by omega, by go_num, by rw [HST.out]; exact Lib.hid (.inr ⟨_, _, _, _, rfl, by omega, hs4.out⟩), HB2⟩
                  case measure => simp [intOf] <;> omega
                · rw [if_neg (by rintro ⟨_, h | h⟩; exact hne5 h; exact hlt2 h)] at hstep
                  have HST := Lib.hid hstep
                  have hlt3 : ¬ n4 < n5 := by omega
                  clear hstep hlt2 hl5 hn4 hs5
                  go_wp2_with fail
                  go_roundw
                  case rel => exact ⟨j + 1, by omega, by go_num, by rw [HST.out]; exact HO2, HB2⟩
                  case measure => simp [intOf] <;> omega
            · rw [if_neg (fun h => he h.1)] at hstep
              have HST := Lib.hid hstep
              have heb : (e == 0) = false := by simp [he]
              clear hstep
              go_wp2_with fail
              go_roundw
              case rel => exact ⟨j + 1, by omega, by go_num, by rw [HST.out]; exact HO2, HB2⟩
              case measure => simp [intOf] <;> omega
        · obtain rfl : j = 34 := by omega
          obtain ⟨rfl, rfl⟩ := hL.out
          obtain ⟨G, n5, c5, rfl, hs5⟩ := hov.out.sl
          go_wp2_with fail
          go_ret2
          exact ⟨_, _, _, rfl, hs5, on HB1.out hb.out⟩
    · have hL : Hid ([] = r ∧ (1 : Int) = er) := by
        have h := HL.out
        unfold runR at h
        rw [hpre, if_pos rfl] at h
        injection h with h1 h2
        exact ⟨h1, h2⟩
      obtain ⟨rfl, rfl⟩ := hL.out
      go_wp2_with fail
      go_ret2
      exact ⟨none, 0, 0, rfl, Sl.nil _ _, Below.refl _ _⟩
end Go.Proofs.Ytmejoococajikaa

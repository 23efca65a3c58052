/- Joined texts: NulR. Each has its own head line. No condition beyond those that its theorems state. -/
import Derived.Test.YtlmfdmaoakckgaaJ39
set_option linter.unusedVariables false

/- The reference of nulls.Join. -/
namespace Go.Proofs.Ytlmfdmaoakckgaa
open Go.RowKit

theorem any_at {s : List Val} {k : Nat} {v : Val} (h : s[k]? = some v) (hn : v.null = true) : s.any (fun v => v.null) = true :=
  List.any_eq_true.2 ⟨v, List.mem_of_getElem? h, hn⟩
theorem any_no {s : List Val} (h : ∀ (q : Nat) (v : Val), q < s.length → s[q]? = some v → v.null = false) : s.any (fun v => v.null) = false := by
  rw [List.any_eq_false]
  intro v hv
  obtain ⟨q, hq⟩ := List.mem_iff_getElem?.1 hv
  rw [h q v (List.getElem?_eq_some_iff.1 hq).1 hq]; simp
theorem join_bad {p : List Bool} {s r : List Val} {er : Int} (hl : joinV p s = (r, er)) (h : countB p ≠ s.length ∨ s.any (fun v => v.null) = true) : r = [] ∧ er = 1 := by
  unfold joinV at hl
  rw [if_pos h] at hl
  injection hl with h1 h2
  exact ⟨h1.symm, h2.symm⟩

set_option maxRecDepth 100000 in
set_option maxHeartbeats 1000000 in
theorem refJoin_any (w : World) (A B : Option Addr) (n c m d : Nat) (p : List Bool) (s : List Val) (hp : Rb w A n p) (hs : Rv w B m s) (hn : n ≤ 1000000) (hm : m ≤ 1000000) (r : List Val) (er : Int) (hl : joinV p s = (r, er)) :
    Calls Try.prog 18 #[.slice A n c, .slice B m d] w (ValsErr w r er) := by
  have HP := Lib.hid hp; have HS := Lib.hid hs; have HN := Lib.hid hp.len; have HM := Lib.hid hs.len; have HL := Lib.hid hl
  clear hp hs hl
  go_enter Try.func18, Try.ntmps18
  go_wp2_with fail
  have HE := Lib.hid (own_empty w 42 3)
  go_loopw [6, 7, 8] (fun v at_ i wr => ∃ j : Nat, j ≤ n ∧ i = .int .i64 j ∧ at_ = .int .i64 (countB (p.take j)) ∧ countB (p.take j) ≤ m ∧ Hid (wr.ownsRow w.heap.size 42 3 v j (cellsV (fillV (p.take j) s))) ∧ Hid (∀ (q : Nat) (v : Val), q < countB (p.take j) → s[q]? = some v → v.null = false) ∧ Hid (Below w.heap.size w wr)) (fun _ _ i _ => n - (intOf i).toNat)
  case atStart => exact ⟨0, by omega, rfl, rfl, Nat.zero_le _, HE, Lib.hid (fun q v h => absurd h (Nat.not_lt_zero q)), (Below.refl _ _).alloc (Nat.le_refl _) _⟩
  case round =>
    obtain ⟨j, hj, rfl, rfl, hkm, ho, hz, hb⟩ := hrel
    by_cases hlt : j < n
    · obtain ⟨b, o, hA, hbl, hc⟩ := HP.out.at_ hlt
      subst hA
      have g1 := (hb.out.cell (p := ⟨b, o + j, none⟩) hbl).trans hc
      have hjl : j < p.length := by rw [HN.out]; exact hlt
      have HC := Lib.hid (countB_take p j hjl)
      have HT := Lib.hid (takeB_snoc p j hjl)
      have HCm := Lib.hid (countB_mono p (j + 1))
      have hsz := hb.out.size
      clear hc
      obtain ⟨x, hx⟩ : ∃ x, x = p.getD j false := ⟨_, rfl⟩
      rw [← hx] at g1 HC HT
      clear hx
      cases x
      · have HF := Lib.hid (fillV_snoc (p.take j) s false)
        have HO := ho
        go_wp2_with (at_builtin; refine wpList_val _ rfl _ _ rfl w.heap.size _ j _ rfl (own_below HO.out ((Below.refl _ _).alloc (Nat.le_refl _) _)) _ 1 1 [nullV] rfl (rv_one_at rfl) (by omega) (by simp; omega) ?_; intro G c w3 hown hgr hcc)
        have HOWN := Lib.hid hown; have HNB := Lib.hid (push_ hb.out (Nat.le_refl _) HO.out hgr)
        clear hown hgr
        go_wp2_with fail
        go_roundw
        case rel =>
          refine ⟨j + 1, by omega, by go_num, by rw [HC.out]; rfl, by rw [HC.out]; exact hkm, ?_, by rw [HC.out]; exact hz, HNB⟩
          rw [HT.out, HF.out]
          exact HOWN
        case measure => simp [intOf] <;> omega
      · by_cases hk : countB (p.take j) < m
        · obtain ⟨b2, o2, v, hB, hbl2, hv, h1, h2, h3⟩ := HS.out.at_ hk
          subst hB
          have e1 := (hb.out.cell (p := ⟨b2, o2 + countB (p.take j) * 3, none⟩) hbl2).trans h1
          have e2 := (hb.out.cell (p := ⟨b2, o2 + countB (p.take j) * 3 + 1, none⟩) hbl2).trans h2
          have e3 := (hb.out.cell (p := ⟨b2, o2 + countB (p.take j) * 3 + 2, none⟩) hbl2).trans h3
          have HV := Lib.hid hv
          clear h1 h2 h3 hv
          obtain ⟨k, hk0⟩ : ∃ k, k = countB (p.take j) := ⟨_, rfl⟩
          have HK := Lib.hid hk0
          rw [← hk0] at e1 e2 e3 hkm hk HC HV hz
          rw [← hk0]
          clear hk0
          cases hvn : v.null
          · have HVN := Lib.hid hvn
            rw [hvn] at e1
            clear hvn
            have HF := Lib.hid (fillV_snoc (p.take j) s true)
            have HO := ho
            go_wp2_with (at_builtin; refine wpList_val _ rfl _ _ rfl w.heap.size _ j _ rfl (own_below HO.out ((Below.refl _ _).alloc (Nat.le_refl _) _)) _ 1 1 [⟨false, v.n, v.s⟩] rfl (rv_one_at rfl) (by omega) (by simp; omega) ?_; intro G c w3 hown hgr hcc)
            have HOWN := Lib.hid hown; have HNB := Lib.hid (push_ hb.out (Nat.le_refl _) HO.out hgr)
            clear hown hgr
            go_wp2_with fail
            go_roundw
            case rel =>
              refine ⟨j + 1, by omega, by go_num, by rw [HC.out]; go_num, by rw [HC.out, if_pos rfl]; omega, ?_, ?_, HNB⟩
              · rw [HT.out, HF.out, ← HK.out, HV.out, if_pos rfl, Option.getD_some]
                have h := HOWN.out
                have e : (⟨false, v.n, v.s⟩ : Val) = v := by rw [← HVN.out]
                rw [e] at h
                exact Lib.hid h
              · rw [HC.out, if_pos rfl]
                refine Lib.hid (fun q u hq hu => ?_)
                rcases Nat.lt_or_ge q k with h | h
                · exact hz.out q u h hu
                · obtain rfl : q = k := by omega
                  rw [HV.out] at hu
                  injection hu with hu
                  rw [← hu]; exact HVN.out
            case measure => simp [intOf] <;> omega
          · have HBAD := Lib.hid (join_bad HL.out (.inr (any_at HV.out hvn)))
            rw [hvn] at e1
            clear hvn
            go_wp2_with fail
            go_ret2
            obtain ⟨rfl, rfl⟩ := HBAD.out
            exact ⟨_, _, _, rfl, Sv.nil _, hb.out⟩
        · have hbig : countB p ≠ s.length := by
            have h1 := HCm.out
            rw [HC.out, if_pos rfl] at h1
            have h2 := HM.out
            omega
          have HBAD := Lib.hid (join_bad HL.out (.inl hbig))
          clear hbig
          generalize countB (p.take j) = k at *
          go_wp2_with fail
          go_ret2
          obtain ⟨rfl, rfl⟩ := HBAD.out
          exact ⟨_, _, _, rfl, Sv.nil _, hb.out⟩
    · obtain rfl : j = n := by omega
      have hfull : p.take j = p := List.take_of_length_le (by rw [HN.out]; omega)
      rw [hfull] at ho hz hkm
      rw [hfull]
      clear hfull
      by_cases hcm : countB p = m
      · have HR : Hid (r = fillV p s ∧ er = 0) := by
          have h := HL.out
          unfold joinV at h
          rw [if_neg, Prod.mk.injEq] at h
          · exact ⟨h.1.symm, h.2.symm⟩
          · rintro (h1 | h1)
            · exact h1 (by rw [HM.out]; exact hcm)
            · rw [any_no (fun q v hq hv => hz.out q v (by rw [HM.out] at hq; omega) hv)] at h1; cases h1
        have hb1 : ((countB p : Int) != (m : Int)) = false := by simp; omega
        obtain ⟨G, c1, rfl⟩ := own_form ho.out
        have HO := Lib.hid (Sv.of_own ho.out)
        clear ho hcm hz
        go_wp2_with fail
        go_ret2
        obtain ⟨rfl, rfl⟩ := HR.out
        exact ⟨_, _, _, rfl, HO.out, hb.out⟩
      · have HBAD := Lib.hid (join_bad HL.out (.inl (by rw [HM.out]; exact hcm)))
        have hb1 : ((countB p : Int) != (m : Int)) = true := by simp; omega
        clear hcm hz
        go_wp2_with fail
        go_ret2
        obtain ⟨rfl, rfl⟩ := HBAD.out
        exact ⟨_, _, _, rfl, Sv.nil _, hb.out⟩
end Go.Proofs.Ytlmfdmaoakckgaa

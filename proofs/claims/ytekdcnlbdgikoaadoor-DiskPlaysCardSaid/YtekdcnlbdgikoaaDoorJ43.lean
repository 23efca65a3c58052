/- Joined texts: RfE. Each has its own head line. No condition beyond those that its theorems state. -/
import Derived.Test.YtekdcnlbdgikoaaDoorJ42
set_option linter.unusedVariables false

/- The reference's disk: Create, Delete. -/
namespace Go.Proofs.YtekdcnlbdgikoaaDoor
open Go.RowKit

set_option maxRecDepth 100000 in
set_option maxHeartbeats 4000000 in
theorem rCreate_any (w : World) (base y : Nat) (q lf : Int) (A : Option Addr) (c : Nat) (L : List Fl) (h : Rk w base y q lf A c L) (hl : -9223372036854775808 ≤ lf ∧ lf < 9223372036854775808) (hlen : L.length < 1000000) (p : ByteArray) (hp : p.size ≤ maxLen) (er : Int) (M' : List Mf) (hc : createM lf (absF L) p = (er, M')) :
    Calls Tryd.prog 35 #[.pointer (some ⟨y, 0, none⟩), .string p] w fun e w' => ∃ L', absF L' = M' ∧ RkOut w base y q A c L (burnL lf) L' (.int .i64 er) e w' := by
  have HD := Lib.hid h
  unfold createM at hc
  rw [abs_find, Option.isSome_map, abs_len] at hc
  by_cases h0 : lf = 0
  · rw [if_pos h0] at hc
    injection hc with h1 h2
    have HR := Lib.hid (And.intro h1 h2)
    have HL := Lib.hid (show decide (lf = 0) = true from decide_eq_true h0)
    clear h0 h1 h2 h
    go_enter Tryd.func35, Tryd.ntmps35
    go_wp2_with fail
    refine (rburnt_any _ _ _ _ _ _ _ _ HD.out hl).mono ?_; rintro e w1 ⟨rfl, hd1, ht1, hsz1⟩
    rw [HL.out]
    have HD1 := Lib.hid hd1; have HT1 := Lib.hid ht1
    clear hd1 ht1 hsz1
    go_wp2_with fail
    go_ret
    obtain ⟨rfl, rfl⟩ := HR.out
    exact ⟨L, rfl, rfl, ⟨A, c, HD1.out⟩, HT1.out⟩
  · rw [if_neg h0] at hc
    have HL := Lib.hid (show decide (lf = 0) = false from decide_eq_false h0)
    clear h0
    obtain ⟨N, hN⟩ : ∃ N, N = L.length := ⟨_, rfl⟩
    have HNL := Lib.hid hN
    obtain ⟨bp, hbp⟩ : ∃ bp, pathD p = bp := ⟨_, rfl⟩
    rw [hbp] at hc
    have HBP := Lib.hid hbp
    have HSORT := Lib.hid h.sort
    clear hbp h hN
    cases bp
    · rw [if_pos rfl] at hc
      injection hc with h1 h2
      have HR := Lib.hid (And.intro h1 h2)
      clear h1 h2
      go_enter Tryd.func35, Tryd.ntmps35
      go_wp2_with fail
      refine (rburnt_any _ _ _ _ _ _ _ _ HD.out hl).mono ?_; rintro e w1 ⟨rfl, hd1, ht1, hsz1⟩
      rw [HL.out]
      have HD1 := Lib.hid hd1; have HT1 := Lib.hid ht1
      clear hd1 ht1 hsz1
      go_wp2_with fail
      refine (rPath_any w1 p hp).mono ?_; rintro e w' ⟨rfl, hw'⟩
      rw [hw', HBP.out]
      clear hw' w'
      go_wp2_with fail
      go_ret
      obtain ⟨rfl, rfl⟩ := HR.out
      exact ⟨L, rfl, rfl, ⟨A, c, HD1.out⟩, HT1.out⟩
    · rw [if_neg (by simp)] at hc
      cases hf : findF L p with
      | some f =>
        rw [hf, if_pos (show (some f).isSome = true from rfl)] at hc
        injection hc with h1 h2
        have HR := Lib.hid (And.intro h1 h2)
        obtain ⟨k, hk, _, _, hat⟩ := at_some HSORT.out hf
        have HN := Lib.hid hat
        have k0 : decide ((0 : Int) ≤ k) = true := decide_eq_true (by omega)
        clear h1 h2 hf hat
        go_enter Tryd.func35, Tryd.ntmps35
        go_wp2_with fail
        refine (rburnt_any _ _ _ _ _ _ _ _ HD.out hl).mono ?_; rintro e w1 ⟨rfl, hd1, ht1, hsz1⟩
        rw [HL.out]
        have HD1 := Lib.hid hd1; have HT1 := Lib.hid ht1
        clear hd1 ht1 hsz1
        go_wp2_with fail
        refine (rPath_any w1 p hp).mono ?_; rintro e w' ⟨rfl, hw'⟩
        rw [hw', HBP.out]
        clear hw' w'
        go_wp2_with fail
        refine (at_any w1 base y q _ A c L HD1.out p hlen).mono ?_; rintro e w' ⟨rfl, hw'⟩
        rw [hw', HN.out]
        clear hw' w'
        go_wp2_with fail
        go_ret
        obtain ⟨rfl, rfl⟩ := HR.out
        exact ⟨L, rfl, rfl, ⟨A, c, HD1.out⟩, HT1.out⟩
      | none =>
        rw [hf, if_neg (by simp)] at hc
        have HN := Lib.hid (at_none hf)
        have HNEW := Lib.hid (findF_none hf)
        rw [← HNL.out] at hc hlen
        have HC := Lib.hid hc
        clear hf hc
        go_enter Tryd.func35, Tryd.ntmps35
        go_wp2_with fail
        refine (rburnt_any _ _ _ _ _ _ _ _ HD.out hl).mono ?_; rintro e w1 ⟨rfl, hd1, ht1, hsz1⟩
        rw [HL.out]
        have HD1 := Lib.hid hd1; have HT1 := Lib.hid ht1
        have y2 := hd1.c2
        rw [← HNL.out] at y2
        clear hd1 ht1 hsz1
        go_wp2_with fail
        refine (rPath_any w1 p hp).mono ?_; rintro e w' ⟨rfl, hw'⟩
        rw [hw', HBP.out]
        clear hw' w'
        go_wp2_with fail
        refine (at_any w1 base y q _ A c L HD1.out p (by rw [← HNL.out]; exact hlen)).mono ?_; rintro e w' ⟨rfl, hw'⟩
        rw [hw', HN.out]
        clear hw' w'
        by_cases hbig : 400 ≤ N
        · have hc := HC.out
          rw [if_pos hbig] at hc
          injection hc with h1 h2
          have HR := Lib.hid (And.intro h1 h2)
          have t4 : decide ((400 : Int) ≤ N) = true := decide_eq_true (by omega)
          clear h1 h2 HC
          go_wp2_with fail
          go_ret
          obtain ⟨rfl, rfl⟩ := HR.out
          exact ⟨L, rfl, rfl, ⟨A, c, HD1.out⟩, HT1.out⟩
        · have hc := HC.out
          rw [if_neg hbig] at hc
          injection hc with h1 h2
          have HR := Lib.hid (And.intro h1 h2)
          have t4 : decide ((400 : Int) ≤ N) = false := decide_eq_false (by omega)
          clear h1 h2 HC
          go_wp2_with fail
          refine (add_any w1 base y q _ A c L HD1.out (by rw [← HNL.out]; exact hlen) ⟨p, none, 0, 0, [], 0⟩ ⟨Ri.nil _ _ _, (fun x hx => absurd hx List.not_mem_nil), Nat.le_refl _, by simp, Nat.le_refl _, hp⟩ HNEW.out).mono ?_; rintro e w2 ⟨rfl, hk2, ht2⟩
          have HK2 := Lib.hid hk2; have HT2 := Lib.hid ht2
          clear hk2 ht2
          go_wp2_with fail
          go_ret
          obtain ⟨rfl, rfl⟩ := HR.out
          exact ⟨_, abs_ins _ L, rfl, HK2.out, HT1.out.trans HT2.out⟩
theorem del_at {L : List Fl} (hs : SortF L) {k : Nat} (hk : k < L.length) : L.take k ++ L.drop (k + 1) = delF L L[k].p := by
  have h1 : L = L.take k ++ L[k] :: L.drop (k + 1) := by rw [List.getElem_cons_drop, List.take_append_drop]
  have h2 : ∀ f ∈ L.take k, f.p ≠ L[k].p := fun f hf => by
    obtain ⟨i, hi, rfl⟩ := List.getElem_of_mem hf
    have hi2 : i < k := by have := List.length_take (i := k) (l := L); omega
    rw [List.getElem_take]
    exact befF_ne (List.pairwise_iff_getElem.1 hs i k (by omega) hk hi2)
  have h3 : ∀ f ∈ L.drop (k + 1), f.p ≠ L[k].p := fun f hf => by
    obtain ⟨i, hi, rfl⟩ := List.getElem_of_mem hf
    rw [List.getElem_drop]
    have hi2 : k + 1 + i < L.length := by have := List.length_drop (i := k + 1) (l := L); omega
    exact fun e => befF_ne (List.pairwise_iff_getElem.1 hs k (k + 1 + i) hk hi2 (by omega)) e.symm
  have h4 : delF (L.take k ++ L[k] :: L.drop (k + 1)) L[k].p = L.take k ++ L.drop (k + 1) := by
    have e2 := delF_none h2
    have e3 := delF_none h3
    unfold delF at e2 e3 ⊢
    rw [List.filter_append, List.filter_cons_of_neg (by simp), e2, e3]
  rw [← h1] at h4
  exact h4.symm
theorem del_end {w w5 : World} {base y H n c c2 k : Nat} {q lf : Int} {A G : Option Addr} {L : List Fl} (hk : k < L.length) (hd : Rk w5 base y q lf A c L) (ho : w5.ownsRow H 80 3 (.slice G n c2) n (cellsF (L.take k ++ L.drop (k + 1)))) (hn : n + 1 = L.length) (hb : base ≤ H) (hyH : y < H)
    (ht : TurnR y (Value.slice A L.length c).ownBlock (L.length * 3) w w5) :
    (∃ A' c', Rk (w5.setCell ⟨y, 2, none⟩ (.slice G n c2)) base y q lf A' c' (delF L L[k].p)) ∧ TurnR y (Value.slice A L.length c).ownBlock (L.length * 3) w (w5.setCell ⟨y, 2, none⟩ (.slice G n c2)) := by
  rw [del_at hd.sort hk] at ho
  have hl : n = (delF L L[k].p).length := by rw [← del_at hd.sort hk, List.length_append, List.length_take, List.length_drop]; omega
  have h := hd.newRow ho hl hb hyH (fun x hx => hd.row x (List.mem_filter.1 hx).1) (delF_sort hd.sort _)
  exact ⟨⟨_, _, h.1⟩, ht.trans h.2⟩

set_option maxRecDepth 100000 in
set_option maxHeartbeats 4000000 in
theorem rDelete_any (w : World) (base y : Nat) (q lf : Int) (A : Option Addr) (c : Nat) (L : List Fl) (h : Rk w base y q lf A c L) (hl : -9223372036854775808 ≤ lf ∧ lf < 9223372036854775808) (hlen : L.length < 1000000) (p : ByteArray) (er : Int) (M' : List Mf) (hc : deleteM lf (absF L) p = (er, M')) :
    Calls Tryd.prog 39 #[.pointer (some ⟨y, 0, none⟩), .string p] w fun e w' => ∃ L', absF L' = M' ∧ RkOut w base y q A c L (burnL lf) L' (.int .i64 er) e w' := by
  have HD := Lib.hid h
  unfold deleteM at hc
  rw [abs_find, Option.isSome_map] at hc
  by_cases h0 : lf = 0
  · rw [if_pos h0] at hc
    injection hc with h1 h2
    have HR := Lib.hid (And.intro h1 h2)
    have HL := Lib.hid (show decide (lf = 0) = true from decide_eq_true h0)
    clear h0 h1 h2 h
    go_enter Tryd.func39, Tryd.ntmps39
    go_wp2_with fail
    refine (rburnt_any _ _ _ _ _ _ _ _ HD.out hl).mono ?_; rintro e w1 ⟨rfl, hd1, ht1, hsz1⟩
    rw [HL.out]
    have HD1 := Lib.hid hd1; have HT1 := Lib.hid ht1
    clear hd1 ht1 hsz1
    go_wp2_with fail
    go_ret
    obtain ⟨rfl, rfl⟩ := HR.out
    exact ⟨L, rfl, rfl, ⟨A, c, HD1.out⟩, HT1.out⟩
  · rw [if_neg h0] at hc
    have HL := Lib.hid (show decide (lf = 0) = false from decide_eq_false h0)
    clear h0
    cases hf : findF L p with
    | none =>
      rw [hf, if_pos (show (none : Option Fl).isSome = false from rfl)] at hc
      injection hc with h1 h2
      have HR := Lib.hid (And.intro h1 h2)
      have HN := Lib.hid (at_none hf)
      clear h1 h2 hf h
      go_enter Tryd.func39, Tryd.ntmps39
      go_wp2_with fail
      refine (rburnt_any _ _ _ _ _ _ _ _ HD.out hl).mono ?_; rintro e w1 ⟨rfl, hd1, ht1, hsz1⟩
      rw [HL.out]
      have HD1 := Lib.hid hd1; have HT1 := Lib.hid ht1
      clear hd1 ht1 hsz1
      go_wp2_with fail
      refine (at_any w1 base y q _ A c L HD1.out p hlen).mono ?_; rintro e w' ⟨rfl, hw'⟩
      rw [hw', HN.out]
      clear hw' w'
      go_wp2_with fail
      go_ret
      obtain ⟨rfl, rfl⟩ := HR.out
      exact ⟨L, rfl, rfl, ⟨A, c, HD1.out⟩, HT1.out⟩
    | some f =>
      rw [hf, if_neg (by simp)] at hc
      injection hc with h1 h2
      have HR := Lib.hid (And.intro h1 h2)
      obtain ⟨k, hk, hkf, hfp, hat⟩ := at_some h.sort hf
      have HN := Lib.hid hat
      have HKF : Hid (L[k].p = p) := Lib.hid (by rw [hkf]; exact hfp)
      have HK := Lib.hid hk
      have k0 : decide ((k : Int) < 0) = false := decide_eq_false (by omega)
      obtain ⟨N, hN⟩ : ∃ N, N = L.length := ⟨_, rfl⟩
      have HNL := Lib.hid hN
      have hkN : k < N := by omega
      clear h1 h2 hf h hat hkf hN
      go_enter Tryd.func39, Tryd.ntmps39
      go_wp2_with fail
      refine (rburnt_any _ _ _ _ _ _ _ _ HD.out hl).mono ?_; rintro e w1 ⟨rfl, hd1, ht1, hsz1⟩
      rw [HL.out]
      have HD1 := Lib.hid hd1; have HT1 := Lib.hid ht1
      have y2 := hd1.c2
      rw [← HNL.out] at y2
      have hyd := hd1.lt
      clear hd1 ht1 hsz1
      go_wp2_with fail
      refine (at_any w1 base y q _ A c L HD1.out p hlen).mono ?_; rintro e w' ⟨rfl, hw'⟩
      rw [hw', HN.out]
      clear hw' w'
      have hown := HD1.out.own
      rw [← HNL.out] at hown
      have hcap := own_cap hown
      have hrows := Rf.of_own hown
      have hba : Below w1.heap.size w1 (w1.drew.alloc (.cells #[] 80)) := (Below.refl w1.heap.size w1).drew.alloc (Nat.le_refl _) _
      have HKA := Lib.hid ((hrows.first (k := k) (by omega)).below hba)
      have HRA := Lib.hid ((hrows.cutk (k := k + 1) (by omega) hcap.1))
      have HOA : Hid ((w1.drew.alloc (.cells #[] 80)).ownsRow w1.heap.size 80 3 (.slice (some ⟨w1.heap.size, 0, none⟩) 0 0) 0 (cellsF [])) := Lib.hid (World.ownsRow_lit w1.drew #[] 0 (Nat.le_refl _) (Nat.zero_le _) rfl)
      have yA : (w1.alloc (.cells #[] 80)).cell? ⟨y, 2, none⟩ = some (.slice A N c) := (hba.cell (p := ⟨y, 2, none⟩) hyd).trans y2
      have hkc : k + 1 ≤ c := by omega
      have hkc0 : k ≤ c := by omega
      have hkN1 : k + 1 ≤ N := by omega
      have hki1 : (0 : Int) ≤ (k : Int) + 1 := by omega
      have hki2 : (k : Int) + 1 ≤ (N : Int) := by omega
      have hwr : IntKind.i64.wrap ((k : Int) + 1) = ((k + 1 : Nat) : Int) := by rw [IntWalk.i64_in _ (by omega)]; omega
      have hk0 : 0 + k ≤ 2000000000 := by have := HNL.out; omega
      have hk2 : k + (N - (k + 1)) ≤ 2000000000 := by have := HNL.out; omega
      have hzA : w1.heap.size ≤ (w1.drew.alloc (.cells #[] 80)).heap.size := by simp
      have HZ := Lib.hid hzA
      have HBA := Lib.hid hba
      have HNN : Hid (k + (N - (k + 1)) + 1 = L.length) := Lib.hid (by have := HNL.out; omega)
      clear hown hrows hba hzA
      go_wp2_with fail
      go_region_law (first
        | (refine step_files rfl (.tmp 16) (.tmp 22) rfl w1.heap.size (.slice (some ⟨w1.heap.size, 0, none⟩) 0 0) 0 [] (by kernel_rfl) HOA.out A k c (L.take k) (by kernel_rfl) HKA.out hk0 HZ.out ?_
           intro G3 c3 w3 ho3 hg3 _
           rw [Nat.zero_add, List.nil_append] at ho3
           have HO3 := Lib.hid ho3
           have HB3 := Lib.hid (push0 HBA.out (Nat.le_refl _) HOA.out hg3)
           have y3 : w3.cell? ⟨y, 2, none⟩ = some (.slice A N c) := (HB3.out.cell (p := ⟨y, 2, none⟩) hyd).trans y2
           have HR3 := Lib.hid (HRA.out.below HB3.out)
           clear ho3 hg3)
        | (refine step_files rfl (.tmp 23) (.tmp 30) rfl w1.heap.size (.slice G3 k c3) k (L.take k) (by kernel_rfl) HO3.out _ (N - (k + 1)) _ (L.drop (k + 1)) (by rfl) HR3.out hk2 HB3.out.size ?_
           intro G4 c4 w4 ho4 hg4 _
           have HO4 := Lib.hid ho4
           have HB4 := Lib.hid (push0 HB3.out (Nat.le_refl _) HO3.out hg4)
           have HD4 := Lib.hid (HD1.out.below HB4.out)
           have y4 : w4.cell? ⟨y, 2, none⟩ = some (.slice A N c) := (HB4.out.cell (p := ⟨y, 2, none⟩) hyd).trans y2
           have f4 := HD4.out.fr 2
           clear ho4 hg4))
      all_goals (go_wp2_with fail)
      all_goals
        go_ret
        obtain ⟨rfl, rfl⟩ := HR.out
        have hend := del_end HK.out HD4.out HO4.out HNN.out HD1.out.hs hyd (HT1.out.trans (TurnR.of_below HB4.out))
        rw [HKF.out] at hend
        have e : ∀ c', (Value.slice A L.length c').ownBlock = (Value.slice A L.length c).ownBlock := fun c' => by cases A <;> rfl
        exact ⟨_, abs_del L p, rfl, hend.1, by rw [e]; exact hend.2⟩
end Go.Proofs.YtekdcnlbdgikoaaDoor

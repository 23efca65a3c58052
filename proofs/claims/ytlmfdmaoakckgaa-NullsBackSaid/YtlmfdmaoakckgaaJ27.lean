/- Joined texts: ByRP. Each has its own head line. No condition beyond those that its theorems state. -/
import Derived.Test.YtlmfdmaoakckgaaJ25
set_option linter.unusedVariables false

/- The reference of byterle.Put. -/
namespace Go.Proofs.Ytlmfdmaoakckgaa
open Go.RowKit

theorem getD_drop (l : List Int) (k i : Nat) : (l.drop k).getD i 0 = l.getD (k + i) 0 := by simp [List.getD]
theorem run_is (l : List Int) (n k m : Nat) (hl : l.length = n) (h1 : 1 ≤ m) (h2 : m ≤ 130) (h3 : k + m ≤ n) (h : ∀ j, j < m → l.getD (k + j) 0 = l.getD k 0) (hs : m = 130 ∨ k + m = n ∨ l.getD (k + m) 0 ≠ l.getD k 0) : runN (l.drop k) = m := by
  refine runN_eq _ m h1 h2 (by rw [List.length_drop]; omega) (fun j hj => ?_) ?_
  · rw [getD_drop, getD_drop, Nat.add_zero]; exact h j hj
  · rw [getD_drop, getD_drop, Nat.add_zero, List.length_drop]
    rcases hs with h4 | h4 | h4
    · exact .inl h4
    · exact .inr (.inl (by omega))
    · exact .inr (.inr h4)
def SameOut (w : World) (m : Nat) (e : Ending) (w' : World) : Prop := e = .returned (.int .i64 m) ∧ ∃ nq, w' = w.drewN nq

set_option maxRecDepth 100000 in
set_option maxHeartbeats 1000000 in
theorem same5_any (w : World) (A : Option Addr) (n cap : Nat) (l : List Int) (hr : Ri w .u8 A n l) (hu : U8 l) (hn : n ≤ 1000000) (k : Nat) (hk : k < n) :
    Calls Try.prog 73 #[.slice A n cap, .int .i64 k] w (SameOut w (runN (l.drop k))) := by
  obtain ⟨b, o, hA, hbl, hcell⟩ := hr.all (by omega)
  subst hA
  have HL := Lib.hid hr.len; have HU := Lib.hid hu; have HC := Lib.hid hcell
  have hx0 := getD_u8 hu k
  clear hr hu hcell
  go_enter Try.func73, Try.ntmps73
  go_wp2_with fail
  go_loopw [5] (fun i wr => ∃ m : Nat, 1 ≤ m ∧ m ≤ 130 ∧ k + m ≤ n ∧ i = .int .i64 m ∧ Hid (∀ j, j < m → l.getD (k + j) 0 = l.getD k 0) ∧ Hid (∃ nq, wr = w.drewN nq)) (fun i _ => 130 - (intOf i).toNat)
  case atStart =>
    refine ⟨1, by omega, by omega, by omega, rfl, Lib.hid fun j hj => ?_, Lib.hid ⟨0, rfl⟩⟩
    rw [show j = 0 from by omega, Nat.add_zero]
  case round =>
    obtain ⟨m, hm1, hm2, hm3, rfl, hall, hnq⟩ := hrel
    obtain ⟨nq, rfl⟩ := hnq.out
    have HLc := HL.out
    rcases Nat.lt_or_ge (k + m) n with hkn | hkn
    · have hb1 : decide ((k : Int) + m < n) = true := decide_eq_true (by omega)
      rcases Nat.lt_or_ge m 130 with h130 | h130
      · have hb2 : decide ((m : Int) < 130) = true := decide_eq_true (by omega)
        have g1 := HC.out (k + m) hkn
        have g2 := HC.out k hk
        have hy0 := getD_u8 HU.out (k + m)
        by_cases heq : l.getD (k + m) 0 = l.getD k 0
        · have hnew : Hid (∀ j, j < m + 1 → l.getD (k + j) 0 = l.getD k 0) := by
            intro j hj
            rcases Nat.lt_or_ge j m with h | h
            · exact hall.out j h
            · rw [show j = m from by omega]; exact heq
          rw [heq] at g1
          clear heq hall hy0 HLc
          generalize l.getD k 0 = x at *
          have hb3 : (x == x) = true := by simp
          go_wp2_with fail
          go_quiet (fail)
          go_wp2_with fail
          go_roundw
          case rel => exact ⟨m + 1, by omega, by omega, by omega, by go_num, hnew, _, rfl⟩
          case measure => simp [intOf] <;> omega
        · have hres := Lib.hid (run_is l n k m HLc hm1 hm2 hm3 hall.out (.inr (.inr heq)))
          generalize l.getD (k + m) 0 = y at *
          generalize l.getD k 0 = x at *
          have hb3 : (y == x) = false := by rw [beq_eq_false_iff_ne]; exact heq
          clear heq HLc
          go_wp2_with fail
          go_quiet (fail)
          go_wp2_with fail
          go_ret
          exact ⟨ret_int (by rw [hres.out]), _, World.drewN_drewN _ _ _⟩
      · have hb2 : decide ((m : Int) < 130) = false := decide_eq_false (by omega)
        have hres := Lib.hid (run_is l n k m HLc hm1 hm2 hm3 hall.out (.inl (by omega)))
        clear HLc
        go_wp2_with fail
        go_quiet (fail)
        go_wp2_with fail
        go_ret
        exact ⟨ret_int (by rw [hres.out]), _, World.drewN_drewN _ _ _⟩
    · have hb1 : decide ((k : Int) + m < n) = false := decide_eq_false (by omega)
      have hres := Lib.hid (run_is l n k m HLc hm1 hm2 hm3 hall.out (.inr (.inl (by omega))))
      clear HLc
      go_wp2_with fail
      go_quiet (fail)
      go_wp2_with fail
      go_ret
      exact ⟨ret_int (by rw [hres.out]), _, World.drewN_drewN _ _ _⟩

/-- The state while the reference lays bytes down. -/
def RPutW (w wr : World) (l : List Int) (v : Value) (k : Nat) : Prop :=
  ∃ o : List Int, wr.ownsRow w.heap.size 5 1 v o.length (o.map (Value.int .u8)) ∧ Below w.heap.size w wr ∧ o ++ enc 0 [] (l.drop k) = enc 0 [] l ∧ o.length ≤ 2 * k

theorem Ri_two (w : World) (k : IntKind) (x y : Int) (t : TypeId) : Ri (w.alloc (.cells #[.int k x, .int k y] t)) k (some ⟨w.heap.size, 0, none⟩) 2 [x, y] := by
  refine ⟨rfl, fun _ => ⟨w.heap.size, 0, rfl, by simp, fun j u hu => ?_⟩⟩
  rw [(Blk.new w t _).cell, Nat.zero_add]; simpa using hu
theorem own_drewN {w : World} {B : Nat} {e : TypeId} {size n : Nat} {v : Value} {xs : List Value} (h : w.ownsRow B e size v n xs) (m : Nat) : (w.drewN m).ownsRow B e size v n xs := h
theorem rputw_list {w w5 : World} {l o : List Int} {n k E c5 : Nat} {G5 : Option Addr} (hE1 : 1 ≤ E - k) (he1 : k ≤ E) (he2 : E ≤ n) (hol : o.length ≤ 2 * k) (henc : o ++ enc 0 [] (l.drop k) = enc 0 [] l)
    (hs : enc 0 [] (l.drop k) = (256 - ((E - k : Nat) : Int)) :: ((l.drop k).take (E - k) ++ enc 0 [] (l.drop E))) (hl : ((l.drop k).take (E - k)).length = E - k)
    (ho : w5.ownsRow w.heap.size 5 1 (.slice G5 (o.length + 1 + (E - k)) c5) (o.length + 1 + (E - k)) ((o ++ [256 - ((E : Int) - k)] ++ (l.drop k).take (E - k)).map (Value.int .u8))) (hb : Below w.heap.size w w5) :
    ∃ k' : Nat, k' ≤ n ∧ Value.int .i64 E = .int .i64 k' ∧ Hid (RPutW w w5 l (.slice G5 (o.length + 1 + (E - k)) c5) k') := by
  refine ⟨E, he2, rfl, o ++ [256 - ((E : Int) - k)] ++ (l.drop k).take (E - k), ?_, hb, ?_, ?_⟩
  · rw [List.length_append, List.length_append, hl]; exact ho
  · rw [← henc, hs, show ((E - k : Nat) : Int) = (E : Int) - k from by omega]; simp
  · rw [List.length_append, List.length_append, hl, List.length_singleton]; omega
theorem rputw_run {w w5 : World} {l o : List Int} {n k c5 : Nat} {G5 : Option Addr} (hk : k < n) (hln : l.length = n) (h3 : 3 ≤ runN (l.drop k)) (hol : o.length ≤ 2 * k) (henc : o ++ enc 0 [] (l.drop k) = enc 0 [] l)
    (ho : w5.ownsRow w.heap.size 5 1 (.slice G5 (o.length + 2) c5) (o.length + 2) ((o ++ [(runN (l.drop k) : Int) - 3, l.getD k 0]).map (Value.int .u8))) (hb : Below w.heap.size w w5) :
    k + runN (l.drop k) ≤ n ∧ Hid (RPutW w w5 l (.slice G5 (o.length + 2) c5) (k + runN (l.drop k))) := by
  have h1 := runN_le (l.drop k)
  rw [List.length_drop, hln] at h1
  have h2 := enc_long (l.drop k) [] h3
  rw [chunks_nil, List.nil_append, getD_drop, Nat.add_zero, List.drop_drop] at h2
  refine ⟨by omega, o ++ [(runN (l.drop k) : Int) - 3, l.getD k 0], ?_, hb, ?_, ?_⟩
  · rw [List.length_append]; exact ho
  · rw [← henc, h2]; simp
  · rw [List.length_append]; simp; omega

set_option maxRecDepth 100000 in
set_option maxHeartbeats 2000000 in
theorem refPut5_any (w : World) (A : Option Addr) (n cap : Nat) (l : List Int) (hr : Ri w .u8 A n l) (hu : U8 l) (hc : n ≤ cap) (hn : n ≤ 1000000) (r : List Int) (er : Int) (hp : encR l = (r, er)) :
    Calls Try.prog 60 #[.slice A n cap] w (BytesErr w r er) := by
  have HR := Lib.hid hr; have HU := Lib.hid hu; have HL := Lib.hid hr.len
  unfold encR at hp
  rw [hr.len] at hp
  clear hr hu
  by_cases hbig : 4096 < n
  · rw [if_pos hbig] at hp
    injection hp with e1 e2
    subst e1 e2
    go_enter Try.func60, Try.ntmps60
    go_wp2_with fail
    go_ret2
    exact ⟨none, 0, 0, rfl, Sl.nil _ _, Below.refl _ _⟩
  · rw [if_neg hbig] at hp
    injection hp with e1 e2
    subst e2
    have HE := Lib.hid e1; clear e1
    go_enter Try.func60, Try.ntmps60
    go_wp2_with fail
    go_loopw [4, 5] (fun v i wr => ∃ k : Nat, k ≤ n ∧ i = .int .i64 k ∧ Hid (RPutW w wr l v k)) (fun _ i _ => n - (intOf i).toNat)
    case atStart => exact ⟨0, by omega, rfl, [], own_empty w _ 1, (Below.refl _ _).alloc (Nat.le_refl _) _, by simp, by simp⟩
    case round =>
      obtain ⟨k, hk, rfl, hrel⟩ := hrel
      obtain ⟨o, ho, hb, henc, hol⟩ := hrel.out
      obtain ⟨G, gc, rfl⟩ := own_form ho
      have hgc := own_cap ho
      have HO := Lib.hid ho; have HB := Lib.hid hb; have HENC := Lib.hid henc
      clear hrel ho hb henc
      rcases Nat.lt_or_ge k n with hlt | hge
      · have hdl : (l.drop k).length = n - k := by rw [List.length_drop, HL.out]
        have hr1 := runN_pos (b := l.drop k) (by omega)
        have hr2 := runN_le (l.drop k)
        have hr3 := runN_130 (l.drop k)
        rw [hdl] at hr2
        have HDL := Lib.hid hdl; clear hdl
        obtain ⟨b, of, hA, hbl, hcell⟩ := HR.out.all (by omega)
        subst hA
        go_wp2_with fail
        refine (same5_any _ _ _ _ l (HR.out.below HB.out) HU.out (by omega) k hlt).mono ?_; rintro e w2 ⟨rfl, nq, rfl⟩
        rcases Nat.lt_or_ge (runN (l.drop k)) 3 with h3 | h3
        · have hshort := enc_list (l.drop k) (by rw [HDL.out]; omega) h3
          have hlitp := (lit_pos (l.drop k)).2 ⟨by rw [HDL.out]; omega, h3⟩
          have hlitle := lit_le (l.drop k)
          rw [HDL.out] at hlitle
          have hlitlt := lit_lt (l.drop k)
          rw [HDL.out] at hlitlt
          rw [List.drop_drop] at hshort
          have HS := Lib.hid hshort; have HLT := Lib.hid hlitlt
          have HR3 := Lib.hid h3
          clear hshort hlitlt
          generalize runN (l.drop k) = q at *
          generalize lit (l.drop k) = L at *
          have hb3 : decide ((3 : Int) ≤ q) = false := decide_eq_false (by omega)
          go_wp2_with fail
          have hne : ¬ cap = k := by omega
          go_loopw [7] (fun i wi => ∃ E : Nat, k ≤ E ∧ E ≤ n ∧ E - k ≤ L ∧ E - k ≤ 128 ∧ i = .int .i64 E ∧ Hid (∃ nq, wi = wr.drewN nq)) (fun i _ => k + 128 - (intOf i).toNat)
          case atStart => exact ⟨k, by omega, by omega, by omega, by omega, rfl, nq, rfl⟩
          case round =>
            obtain ⟨E, he1, he2, he3, he4, rfl, hnq⟩ := hrel
            obtain ⟨nq2, rfl⟩ := hnq.out
            have hlt2 := HLT.out (E - k) he3
            rw [List.drop_drop, show k + (E - k) = E from by omega] at hlt2
            by_cases hgo : E < n ∧ E - k < 128 ∧ runN (l.drop E) < 3
            · obtain ⟨g1, g2, g3⟩ := hgo
              have hEL := hlt2.2 ⟨by omega, g3⟩
              have HG3 := Lib.hid g3
              clear hlt2 g3
              have hsame := same5_any (wr.drewN nq2) _ n cap l ((HR.out.below HB.out).drewN nq2) HU.out (by omega) E g1
              have HSAME := tuck hsame; clear hsame
              go_wp2_with fail
              refine (untuck HSAME).mono ?_; rintro e w3 ⟨rfl, nq3, rfl⟩
              clear HSAME
              have hg3 := HG3.out
              generalize runN (l.drop E) = q2 at *
              go_wp2_with fail
              go_roundw
              case rel => exact ⟨E + 1, by omega, by omega, by omega, by omega, by go_num, _, rfl⟩
              case measure => simp [intOf] <;> omega
            · have hmin : min L 128 = E - k := by omega
              have hE1 : 1 ≤ E - k := by omega
              have hs := HS.out
              rw [hmin, show k + (E - k) = E from by omega] at hs
              have HS2 := Lib.hid hs
              have HY := Lib.hid ((HR.out.mid (i := k) (m := E - k) (by omega)).below HB.out)
              have HL2 := Lib.hid (show ((l.drop k).take (E - k)).length = E - k by rw [List.length_take, HDL.out]; omega)
              have hthree : n ≤ E ∨ (E < n ∧ 128 ≤ E - k) ∨ (E < n ∧ E - k < 128 ∧ Hid (3 ≤ runN (l.drop E))) := by
                rcases Nat.lt_or_ge E n with h1 | h1
                · rcases Nat.lt_or_ge (E - k) 128 with h2 | h2
                  · exact .inr (.inr ⟨h1, h2, by have : ¬ runN (l.drop E) < 3 := fun h => hgo ⟨h1, h2, h⟩; show 3 ≤ _; omega⟩)
                  · exact .inr (.inl ⟨h1, h2⟩)
                · exact .inl h1
              clear hlt2 hgo hs hmin HS HLT
              have hEk : (E : Int) - k = ((E - k : Nat) : Int) := by omega
              have HEK := Lib.hid hEk; clear hEk
              have hsz := HB.out.size
              rcases hthree with h1 | ⟨h1, h2⟩ | ⟨h1, h2, h3'⟩
              case inr.inr =>
                have hsame := same5_any (wr.drewN nq2) _ n cap l ((HR.out.below HB.out).drewN nq2) HU.out (by omega) E h1
                have HSAME := tuck hsame; clear hsame
                go_wp2_with fail
                refine (untuck HSAME).mono ?_; rintro e w3 ⟨rfl, nq3, rfl⟩
                clear HSAME
                have hg3 := h3'.out
                generalize runN (l.drop E) = q2 at *
                go_wp2_with (first | (at_builtin; refine wpList_u8 _ rfl (.tmp 53) (.tmp 59) rfl w.heap.size _ o.length o rfl ((own_drewN HO.out _).alloc _) _ 1 1 [_] rfl (Rd.one _ _ _) (by omega) (by simp; omega) ?_; intro G3 c3 w4 hown hgr _; have HB4 := Lib.hid (push_ (below_drewN HB.out _) (Nat.le_refl _) (own_drewN HO.out _) hgr); have HO4 := Lib.hid hown; have HY4 := Lib.hid ((HR.out.mid (i := k) (m := E - k) (by omega)).below HB4.out); clear hown hgr) | (at_builtin; refine wpList_u8 _ rfl (.tmp 61) (.tmp 65) rfl w.heap.size _ (o.length + 1) _ rfl HO4.out _ (E - k) _ ((l.drop k).take (E - k)) rfl HY4.out (by omega) HB4.out.size ?_; intro G5 c5 w5 hown hgr _; have HB5 := Lib.hid (push0 HB4.out (Nat.le_refl _) HO4.out hgr); have HO5 := Lib.hid hown; clear hown hgr))
                go_roundw
                case rel => exact rputw_list hE1 he1 he2 hol HENC.out HS2.out HL2.out HO5.out HB5.out
                case measure => simp [intOf] <;> omega
              all_goals
                go_wp2_with (first | (at_builtin; refine wpList_u8 _ rfl (.tmp 53) (.tmp 59) rfl w.heap.size _ o.length o rfl ((own_drewN HO.out _).alloc _) _ 1 1 [_] rfl (Rd.one _ _ _) (by omega) (by simp; omega) ?_; intro G3 c3 w4 hown hgr _; have HB4 := Lib.hid (push_ (below_drewN HB.out _) (Nat.le_refl _) (own_drewN HO.out _) hgr); have HO4 := Lib.hid hown; have HY4 := Lib.hid ((HR.out.mid (i := k) (m := E - k) (by omega)).below HB4.out); clear hown hgr) | (at_builtin; refine wpList_u8 _ rfl (.tmp 61) (.tmp 65) rfl w.heap.size _ (o.length + 1) _ rfl HO4.out _ (E - k) _ ((l.drop k).take (E - k)) rfl HY4.out (by omega) HB4.out.size ?_; intro G5 c5 w5 hown hgr _; have HB5 := Lib.hid (push0 HB4.out (Nat.le_refl _) HO4.out hgr); have HO5 := Lib.hid hown; clear hown hgr))
                go_roundw
                case rel => exact rputw_list hE1 he1 he2 hol HENC.out HS2.out HL2.out HO5.out HB5.out
                case measure => simp [intOf] <;> omega
        · have g0 := (HB.out.cell (p := ⟨b, of + k, none⟩) hbl).trans (hcell k hlt)
          have hy0 := getD_u8 HU.out k
          have HR3 := Lib.hid h3
          clear hcell
          obtain ⟨q, hq⟩ : ∃ q, q = runN (l.drop k) := ⟨_, rfl⟩
          obtain ⟨y, hy⟩ : ∃ y, y = l.getD k 0 := ⟨_, rfl⟩
          rw [← hq] at h3 hr1 hr2 hr3
          rw [← hy] at g0 hy0
          rw [← hq]
          have HQ := Lib.hid hq; have HY := Lib.hid hy
          clear hq hy
          have hb3 : decide ((3 : Int) ≤ q) = true := decide_eq_true (by omega)
          go_wp2_with (at_builtin; refine wpList_u8 _ rfl (.tmp 21) (.tmp 29) rfl w.heap.size _ o.length o rfl ((own_drewN HO.out _).alloc _) _ 2 2 [_, _] rfl (Ri_two _ _ _ _ _) (by omega) (by have := HB.out.size; simp; omega) ?_; intro G3 c3 w4 hown hgr _; have HB4 := Lib.hid (push_ (below_drewN HB.out _) (Nat.le_refl _) (own_drewN HO.out _) hgr); have HO4 := Lib.hid hown; clear hown hgr)
          go_roundw
          case rel =>
            have ho4 := HO4.out
            rw [HY.out, HQ.out] at ho4
            obtain ⟨h5, h6⟩ := rputw_run hlt HL.out HR3.out hol HENC.out ho4 HB4.out
            rw [← HQ.out] at h5 h6
            exact ⟨k + q, h5, by go_num, h6⟩
          case measure => simp [intOf] <;> omega
      · obtain rfl : k = n := by omega
        have henc := HENC.out
        rw [List.drop_of_length_le (by rw [HL.out]; exact Nat.le_refl _), enc_nil, chunks_nil, List.append_nil, HE.out] at henc
        subst henc
        go_wp2_with fail
        go_ret2
        exact ⟨_, _, _, rfl, Sl.of_own HO.out, HB.out⟩
end Go.Proofs.Ytlmfdmaoakckgaa

/- Joined texts: GlK, GlRun. Each has its own head line. No condition beyond those that its theorems state. -/
import Derived.Deep.DeepCutAuto
import Derived.Lib.SliceRun
import Derived.Test.YtmejoococajikaaGreatJ07
import Derived.Test.YtmejoococajikaaGreatJ04
import Derived.Test.YtmejoococajikaaGreatJ28
import Derived.Test.YtmejoococajikaaGreatJ24
set_option linter.unusedVariables false

/- Rle: the kinds of runs: a row of functions. -/
namespace Go.Proofs.YtmejoococajikaaGreat
open Go.RowKit

/-- The function of kind j. -/
def IsKind (w : World) (j : Nat) (v : Value) : Prop :=
  (j = 0 ∧ v = .func (.func 79) #[] #[]) ∨ (j = 1 ∧ v = .func (.func 80) #[] #[]) ∨ (j = 2 ∧ v = .func (.func 81) #[] #[]) ∨
    ∃ c h : Nat, j = c + 3 ∧ v = .func (.func 82) #[] #[.pointer (some ⟨h, 0, none⟩)] ∧ Ri w .i64 (some ⟨h, 0, none⟩) 1 [(c : Int)]
theorem IsKind.one {w : World} {j : Nat} {v : Value} (h : IsKind w j v) : v.oneCell' = true := by
  rcases h with ⟨_, rfl⟩ | ⟨_, rfl⟩ | ⟨_, rfl⟩ | ⟨_, _, _, rfl, _⟩ <;> rfl
theorem IsKind.map {w w' : World} {j : Nat} {v : Value} (h : IsKind w j v) (hb : ∀ (c h : Nat), Ri w .i64 (some ⟨h, 0, none⟩) 1 [(c : Int)] → Ri w' .i64 (some ⟨h, 0, none⟩) 1 [(c : Int)]) : IsKind w' j v := by
  rcases h with h | h | h | ⟨c, a, h1, h2, h3⟩
  · exact .inl h
  · exact .inr (.inl h)
  · exact .inr (.inr (.inl h))
  · exact .inr (.inr (.inr ⟨c, a, h1, h2, hb c a h3⟩))
/-- All kinds up to n. -/
def KindL (w : World) (cs : List Value) (n : Nat) : Prop := cs.length = n ∧ ∀ j v, cs[j]? = some v → IsKind w j v
theorem KindL.map {w w' : World} {cs : List Value} {n : Nat} (h : KindL w cs n) (hb : ∀ (c h : Nat), Ri w .i64 (some ⟨h, 0, none⟩) 1 [(c : Int)] → Ri w' .i64 (some ⟨h, 0, none⟩) 1 [(c : Int)]) : KindL w' cs n :=
  ⟨h.1, fun j v hv => (h.2 j v hv).map hb⟩
theorem KindL.one {w : World} {cs : List Value} {n : Nat} (h : KindL w cs n) : ∀ u ∈ cs, u.oneCell' = true := by
  intro u hu
  obtain ⟨j, hj, rfl⟩ := List.mem_iff_getElem.1 hu
  exact (h.2 j _ (List.getElem?_eq_getElem hj)).one
theorem KindL.snoc {w : World} {cs : List Value} {n c : Nat} (h : KindL w cs n) (hn : n = c + 3) (b : Nat) (hr : Ri w .i64 (some ⟨b, 0, none⟩) 1 [(c : Int)]) :
    KindL w (cs ++ [.func (.func 82) #[] #[.pointer (some ⟨b, 0, none⟩)]]) (n + 1) := by
  refine ⟨by simp [h.1], fun j v hv => ?_⟩
  rcases Nat.lt_or_ge j n with h1 | h1
  · rw [List.getElem?_append_left (by rw [h.1]; exact h1)] at hv
    exact h.2 j v hv
  · rw [List.getElem?_append_right (by rw [h.1]; exact h1), h.1] at hv
    have hj : j - n = 0 := by
      rcases Nat.eq_zero_or_pos (j - n) with h2 | h2
      · exact h2
      · rw [List.getElem?_eq_none (by simp; omega)] at hv; cases hv
    rw [hj] at hv
    injection hv with hv
    exact .inr (.inr (.inr ⟨c, b, by omega, hv.symm, hr⟩))
theorem info_kind : (Tryz.prog.info? 88).map (fun i => (i.zero, i.size, i.bytes)) = some (some (.agg #[.nilFunc]), 1, 8) := by kernel_rfl
/-- append onto a row of the call's own, kinds; where the new slice lies. -/
theorem wpList_kind (w : World) {ops : Array Oper} {rest : List Oper} {o : Oper} {a : Act} {Q : Exit → Act → World → Prop} (hgd : o.guard = none) (s x : Operand)
    (ho : o.op = .call { callee := .builtin .append, args := #[s, x], argTypes := #[85, 85] })
    (base : Nat) (v : Value) (n : Nat) (l : List Value) (hs : a.eval s = v) (hown : w.ownsRow base 88 1 v n l)
    (A : Option Addr) (m c : Nat) (l2 : List Value) (hx : a.eval x = .slice A m c) (hr : Rd w 1 A m l2) (h1 : ∀ u ∈ l2, u.oneCell' = true) (hb : n + m ≤ 2000000000) (hbase : base ≤ w.heap.size)
    (h : ∀ G cap w', w'.ownsRow base 88 1 (.slice G (n + m) cap) (n + m) (l ++ l2) → w.grownBy w' v.ownBlock → wpList Tryz.prog ops Q rest (a.put o.dst (.slice G (n + m) cap)) w') : wpList Tryz.prog ops Q (o :: rest) a w := by
  obtain ⟨i0, hi, hz0, hz1, hz2⟩ := info_parts info_kind
  refine wpList_append_any w hgd s x 85 ho base 88 i0 _ 1 8 Tryz.underlying85 hi hz0 hz1 hz2 rfl (by decide) v n _ hs hown A m c _ hx hr h1 (by unfold maxLen; omega) (by omega) hbase ?_
  intro G cap w' h1 h2 h3 h4
  exact h G cap w' h1 h2
theorem KindL.grown2 {w w' : World} {cs ds : List Value} {n m B : Nat} {t : TypeId} {v : Value} (h : KindL w ds m) (hn : 1 ≤ n) (ho : w.ownsRow B t 1 v n cs) (hp : ds[0]? = cs[0]?) (hg : w.grownBy w' v.ownBlock) : KindL w' ds m := by
  obtain ⟨G, c0, rfl⟩ := own_form ho
  obtain ⟨b, o, hA, hbl, hc⟩ := (Rd.of_own ho).2 (by omega)
  subst hA
  have hlen := ho.1
  have e0 := List.getElem?_eq_getElem (l := cs) (i := 0) (by omega)
  have k0 := hc 0 _ e0
  have f0 := h.2 0 _ (hp.trans e0)
  rcases f0 with ⟨_, f0⟩ | ⟨h0, _⟩ | ⟨h0, _⟩ | ⟨_, _, h0, _⟩
  · rw [f0] at k0
    refine h.map fun c a hr => hr.grown hg (fun g' b' o' h1 h2 => ?_)
    injection h2 with h2; injection h2 with h2 h3
    subst h2
    intro e
    have h4 : g' = b := by simp [Value.ownBlock] at h1; exact h1.symm
    have h5 : o = 0 := by
      rcases ho.2 with ⟨_, hz⟩ | ⟨g2, cap2, cur, hv, _⟩
      · omega
      · injection hv with hv; injection hv with hv; injection hv
    obtain ⟨b2, o2, h6, _, h7⟩ := hr.all (by omega)
    injection h6 with h6; injection h6 with h6 h8
    have h9 := h7 0 (by omega)
    subst h5
    rw [← h6, ← h8, ← e, h4, k0] at h9
    cases h9
  · cases h0
  · cases h0
  · cases h0

def KindsOut (w : World) (e : Ending) (w' : World) : Prop :=
  ∃ b o c cs, e = .returned (.slice (some ⟨b, o, none⟩) 34 c) ∧ 34 ≤ c ∧ b < w'.heap.size ∧ KindL w' cs 34 ∧ (∀ j v, cs[j]? = some v → w'.cell? ⟨b, o + j, none⟩ = some v) ∧ Below w.heap.size w w'
set_option maxRecDepth 100000 in
set_option maxHeartbeats 1000000 in
theorem kinds_any (w : World) : Calls Tryz.prog 55 #[] w (KindsOut w) := by
  go_enter Tryz.func55, Tryz.ntmps55
  go_wp2_with fail
  go_loopw [1, 7] (fun v i wr => ∃ (j : Nat) (cs : List Value), j ≤ 31 ∧ i = .int .i64 j ∧ Hid (KindL wr cs (j + 3)) ∧ Hid (wr.ownsRow w.heap.size 88 1 v (j + 3) cs) ∧ Hid (Below w.heap.size w wr)) (fun _ i _ => 31 - (intOf i).toNat)
  case atStart =>
    refine ⟨0, [.func (.func 79) #[] #[], .func (.func 80) #[] #[], .func (.func 81) #[] #[]], by omega, rfl, ⟨rfl, fun j v hv => ?_⟩, ⟨by simp, .inr ⟨w.heap.size, 3, _, rfl, Nat.le_refl _, Blk.new w _ _, Nat.le_refl _, by unfold maxLen; omega, rfl, by simp⟩⟩, (Below.refl _ _).alloc (Nat.le_refl _) _⟩
    match j, hv with
    | 0, hv => injection hv with hv; exact .inl ⟨rfl, hv.symm⟩
    | 1, hv => injection hv with hv; exact .inr (.inl ⟨rfl, hv.symm⟩)
    | 2, hv => injection hv with hv; exact .inr (.inr (.inl ⟨rfl, hv.symm⟩))
    | j + 3, hv => rw [List.getElem?_eq_none (by simp)] at hv; cases hv
  case round =>
    obtain ⟨j, cs, hj, rfl, hk, ho, hb⟩ := hrel
    have hz := hb.out.size
    by_cases hlt : j < 31
    · obtain ⟨G, c, rfl⟩ := own_form ho.out
      go_upto_region 5 with fail
      have hk1 : Hid (KindL (wr.alloc (.cells #[.int .i64 (j : Int)] 3)) cs (j + 3)) := hk.out.map fun c a h => h.alloc _
      have hbox : Hid (Ri (wr.alloc (.cells #[.int .i64 (j : Int)] 3)) .i64 (some ⟨wr.heap.size, 0, none⟩) 1 [(j : Int)]) := Lib.hid (Rd.one _ _ _)
      have ho1 : Hid ((wr.alloc (.cells #[.int .i64 (j : Int)] 3)).ownsRow w.heap.size 88 1 (.slice G (j + 3) c) (j + 3) cs) := own_below ho.out ((Below.refl _ _).alloc (Nat.le_refl _) _)
      have hb1 : Hid (Below w.heap.size w (wr.alloc (.cells #[.int .i64 (j : Int)] 3))) := hb.out.alloc (by omega) _
      have hz1 : (wr.alloc (.cells #[.int .i64 (j : Int)] 3)).heap.size = wr.heap.size + 1 := by simp
      obtain ⟨H, hH⟩ : ∃ H, H = wr.heap.size := ⟨_, rfl⟩
      rw [← hH] at hbox hz hz1 ⊢
      obtain ⟨w1, hw1⟩ : ∃ w1, w1 = wr.alloc (.cells #[.int .i64 (j : Int)] 3) := ⟨_, rfl⟩
      rw [← hw1] at hbox hk1 ho1 hb1 hz1 ⊢
      have HZ1 := Lib.hid hz1
      have hz2 : w.heap.size ≤ w1.heap.size := by omega
      clear hw1 hH hk ho hb hz1
      go_wp2_with (at_builtin; refine wpList_kind _ rfl _ _ rfl w.heap.size _ (j + 3) cs rfl (own_below ho1.out ((Below.refl _ _).alloc (Nat.le_refl _) _)) _ 1 1 [.func (.func 82) #[] #[.pointer (some ⟨H, 0, none⟩)]] rfl (Rd.one _ _ _) (by simp [Value.oneCell']) (by omega) (by simp; omega) ?_; intro G2 c2 w7 hown hgr)
      have hk2 : KindL (w1.alloc (.cells #[.func (.func 82) #[] #[.pointer (some ⟨H, 0, none⟩)]] 88)) (cs ++ [.func (.func 82) #[] #[.pointer (some ⟨H, 0, none⟩)]]) (j + 3 + 1) := (hk1.out.map fun c a h => h.alloc _).snoc rfl H (hbox.out.alloc _)
      have hk3 := KindL.grown2 hk2 (by omega) (own_below ho1.out ((Below.refl _ _).alloc (Nat.le_refl _) _)) (by simp [hk1.out.1]) hgr
      have HK3 := Lib.hid hk3; have HO3 := Lib.hid hown; have HB3 := Lib.hid (push_ hb1.out (Nat.le_refl _) ho1.out hgr)
      clear hk2 hk3 hown hgr
      go_wp2_with fail
      go_roundw
      case rel => exact ⟨j + 1, _, by omega, by go_num, HK3, HO3, HB3⟩
      case measure => simp [intOf] <;> omega
    · obtain rfl : j = 31 := by omega
      obtain ⟨G, c, rfl⟩ := own_form ho.out
      go_wp2_with fail
      go_ret
      obtain ⟨b, o, hA, hbl, hc⟩ := (Rd.of_own ho.out).2 (by omega)
      subst hA
      exact ⟨b, o, c, cs, rfl, (own_cap ho.out).1, hbl, hk.out, hc, hb.out⟩
end Go.Proofs.YtmejoococajikaaGreat

/- rle.Run. -/
namespace Go.Proofs.YtmejoococajikaaGreat
open Go.RowKit

/-- The shortest run so far: none, or bytes. -/
def OutV (w : World) (v : Value) (p : List Int) : Prop :=
  (p = [] ∧ v = .slice none 0 0) ∨ ∃ b o n c, v = .slice (some ⟨b, o, none⟩) n c ∧ 1 ≤ n ∧ Sl w .u8 (some ⟨b, o, none⟩) n c p
theorem OutV.below {w w' : World} {v : Value} {p : List Int} (h : OutV w v p) (hb : Below w.heap.size w w') : OutV w' v p := by
  rcases h with h | ⟨b, o, n, c, h1, h2, h3⟩
  · exact .inl h
  · exact .inr ⟨b, o, n, c, h1, h2, h3.below hb⟩
theorem OutV.sl {w : World} {v : Value} {p : List Int} (h : OutV w v p) : ∃ G n c, v = .slice G n c ∧ Sl w .u8 G n c p := by
  rcases h with ⟨h1, h2⟩ | ⟨b, o, n, c, h1, h2, h3⟩
  · subst h1; exact ⟨_, _, _, h2, Sl.nil _ _⟩
  · exact ⟨_, _, _, h1, h3⟩

theorem store_fn (w : World) (kf : FuncId) (caps : Array Value) (t : TypeId) : Sem.run Tryz.prog (store ⟨w.heap.size, 0, none⟩ (.func (.func kf) #[] caps)) (w.alloc (.cells #[.nilFunc] t)) = .ok () (w.alloc (.cells #[.func (.func kf) #[] caps] t)) := by
  rw [run_store Tryz.prog _ _ _ _ rfl]
  simp [World.setCell_alloc_new]
set_option maxRecDepth 100000 in
set_option maxHeartbeats 1000000 in
theorem kindFn_any (w : World) (h c : Nat) (hb : Ri w .i64 (some ⟨h, 0, none⟩) 1 [(c : Int)]) (A : Option Addr) (n cap : Nat) (l : List Int) (hr : Ri w .i64 A n l) (hu : I64 l) (hcap : n ≤ cap) (hm : cap ≤ 9223372036854775807) (hn : n ≤ 100000) (s : Bool) (r : List Int) (er : Int) (hl : putPa l (wOf c) s = (r, er)) :
    Calls Tryz.prog 82 #[.slice A n cap, .bool s, .pointer (some ⟨h, 0, none⟩)] w (BytesErr w r er) := by
  obtain ⟨b2, o2, e, hlt, h7⟩ := hb.all (by omega)
  injection e with e; injection e with e1 e2; subst e1 e2
  have g0 : w.cell? ⟨h, 0, none⟩ = some (.int .i64 (c : Int)) := h7 0 (by omega)
  have HR := Lib.hid hr; have HU := Lib.hid hu; have HL := Lib.hid hl
  have hwr := wOf_range (c : Int)
  clear hr hu hl h7 hb
  go_enter Tryz.func82, Tryz.ntmps82
  go_wp2_with fail
  refine (Of_any _ _).mono ?_; rintro e w2 ⟨rfl, hb2⟩
  have HB2 := Lib.hid hb2; clear hb2
  go_wp2_with fail
  refine (PPut_any _ _ _ _ l (HR.out.below HB2.out) HU.out hcap hm hn (wOf c) (by unfold I64x; omega) s r er HL.out).mono ?_; rintro e w3 ⟨G, n3, c3, rfl, hs3, hb3⟩
  go_wp2_with fail
  go_ret2
  exact ⟨_, _, _, rfl, hs3, on HB2.out hb3⟩

set_option maxRecDepth 100000 in
set_option maxHeartbeats 2000000 in
theorem Run_any (w : World) (A : Option Addr) (n cap : Nat) (l : List Int) (hr : Ri w .i64 A n l) (hu : I64 l) (hcap : n ≤ cap) (hm : cap ≤ 9223372036854775807) (hn : n ≤ 100000) (s : Bool) (r : List Int) (er : Int) (hl : runR l s = (r, er)) :
    Calls Tryz.prog 39 #[.slice A n cap, .bool s] w (BytesErr w r er) := by
  have HR := Lib.hid hr; have HU := Lib.hid hu; have HN := Lib.hid hr.len; have HL := Lib.hid hl
  clear hr hu hl
  have qT : ∀ (w : World) (a : Option Addr) (n c n' c' : Nat), (binOp .eql 38 (.slice a n c) (.slice none n' c')).run Tryz.prog w = .ok (.bool a.isNone) w := fun w a n c n' c' => Lib.run_eql_slice_nil w _ _ a n c n' c' Tryz.underlying38
  go_enter Tryz.func39, Tryz.ntmps39
  go_upto_region 1 with fail
  go_cut [27] (fun v wx => v = .bool (badRun l s) ∧ wx = w)
  case first =>
    have hpre : badRun l s = (decide (n < 1) || decide (512 < n) || (!s && l.any fun y => decide (y < 0))) := by unfold badRun; rw [HN.out]
    by_cases h1 : n < 1
    · have HP : Hid (badRun l s = true) := Lib.hid (by rw [hpre, decide_eq_true h1]; rfl)
      clear hpre
      go_wp2_with fail
      go_meet
      exact ⟨by rw [HP.out], rfl⟩
    · by_cases h2 : 512 < n
      · have HP : Hid (badRun l s = true) := Lib.hid (by rw [hpre, decide_eq_true h2]; simp)
        clear hpre
        go_wp2_with fail
        go_meet
        exact ⟨by rw [HP.out], rfl⟩
      · have hmin := minL_neg l (by rw [HN.out]; omega)
        obtain ⟨M, hM⟩ : ∃ M, M = minL l := ⟨_, rfl⟩
        rw [← hM] at hmin
        have HM := Lib.hid hM
        clear hM
        have hpre3 : badRun l s = (!s && decide (M < 0)) := by
          rw [hpre, decide_eq_false h1, decide_eq_false h2]
          have h3 : (l.any fun y => decide (y < 0)) = decide (M < 0) := by
            cases h4 : (l.any fun y => decide (y < 0))
            · exact (decide_eq_false (fun h => by rw [hmin.1 h] at h4; cases h4)).symm
            · exact (decide_eq_true (hmin.2 h4)).symm
          rw [h3]; rfl
        have HP := Lib.hid hpre3
        clear hpre hmin hpre3
        cases s
        · go_wp2_with fail
          refine (Min_any _ _ _ _ l HR.out (by omega) (by omega)).mono ?_; rintro e w' ⟨rfl, rfl⟩
          rw [← HM.out]
          go_wp2_with fail
          go_meet
          exact ⟨by rw [HP.out, decide_eq_false (show ¬ (n : Int) < 1 by omega), decide_eq_false (show ¬ 512 < (n : Int) by omega)]; rfl, rfl⟩
        · go_wp2_with fail
          go_meet
          exact ⟨by rw [HP.out, decide_eq_false (show ¬ (n : Int) < 1 by omega), decide_eq_false (show ¬ 512 < (n : Int) by omega)]; rfl, rfl⟩
  case rest =>
    obtain ⟨rfl, hw⟩ := hcut
    subst hw
    cases hpre : badRun l s
    · have hL : Hid (runK l s 34 = r ∧ (0 : Int) = er) := by
        have h := HL.out
        unfold runR at h
        rw [hpre, if_neg (by simp)] at h
        injection h with h1 h2
        exact ⟨h1, h2⟩
      have hfa : 1 ≤ n ∧ n ≤ 512 := by
        unfold badRun at hpre
        simp only [Bool.or_eq_false_iff, decide_eq_false_iff_not, HN.out] at hpre
        omega
      clear HL hpre
      go_wp2_with fail
      refine (kinds_any _).mono ?_; rintro e w1 ⟨bk, ok, ck, cs, rfl, hck, hbk, hkl, hcs, hb1⟩
      have HKL := Lib.hid hkl; have HCS := Lib.hid hcs; have HB1 := Lib.hid hb1
      clear hkl hcs hb1
      go_wp2_with fail
      go_loopw [6, 30] (fun v i wr => ∃ j : Nat, j ≤ 34 ∧ i = .int .i64 j ∧ Hid (OutV wr v (runK l s j)) ∧ Hid (Below w1.heap.size w1 wr)) (fun _ i _ => 34 - (intOf i).toNat)
      case atStart => exact ⟨0, by omega, rfl, Lib.hid (.inl ⟨rfl, rfl⟩), Below.refl _ _⟩
      case round =>
        obtain ⟨j, hj, rfl, hov, hb⟩ := hrel
        by_cases hlt : j < 34
        · obtain ⟨v, hv⟩ : ∃ v, cs[j]? = some v := ⟨_, List.getElem?_eq_getElem (by rw [HKL.out.1]; exact hlt)⟩
          have hkind := HKL.out.2 j v hv
          have hcv := (hb.out.cell (p := ⟨bk, ok + j, none⟩) hbk).trans (HCS.out j v hv)
          have HRR := Lib.hid ((HR.out.below HB1.out).below hb.out)
          have hz := hb.out.size
          obtain ⟨kf, caps, rfl⟩ : ∃ kf caps, v = .func (.func kf) #[] caps := by
            rcases hkind with ⟨_, h⟩ | ⟨_, h⟩ | ⟨_, h⟩ | ⟨_, _, _, h, _⟩ <;> exact ⟨_, _, h⟩
          have HKIND := Lib.hid hkind
          clear hv hkind
          have hst : Sem.run Tryz.prog (store ⟨wr.heap.size, 0, none⟩ (.func (.func kf) #[] caps)) (wr.alloc (.cells #[.nilFunc] 88)) = .ok () (wr.alloc (.cells #[.func (.func kf) #[] caps] 88)) := store_fn wr kf caps _
          go_upto_region 7 with fail
          clear hst
          have hbk2 := hb.out.alloc (by omega) (.cells #[.func (.func kf) #[] caps] 88)
          have HBA := Lib.hid hbk2
          have hz2 := hbk2.size
          have c0 : (wr.alloc (.cells #[.func (.func kf) #[] caps] 88)).cell? ⟨wr.heap.size, 0, none⟩ = some (.func (.func kf) #[] caps) := by simp
          have HRA := Lib.hid (HRR.out.alloc (.cells #[.func (.func kf) #[] caps] 88))
          have hova : OutV (wr.alloc (.cells #[.func (.func kf) #[] caps] 88)) _ _ := hov.out.below ((Below.refl _ _).alloc (Nat.le_refl _) _)
          have HOV := Lib.hid hova
          obtain ⟨H, hH⟩ : ∃ H, H = wr.heap.size := ⟨_, rfl⟩
          rw [← hH] at c0 ⊢
          obtain ⟨wa, hwa⟩ : ∃ wa, wa = wr.alloc (.cells #[.func (.func kf) #[] caps] 88) := ⟨_, rfl⟩
          rw [← hwa] at HBA hz2 c0 HRA HOV ⊢
          clear hwa hH hbk2 hova hov hb HRR hcv hz
          go_cut [9, 10] (fun v9 v10 wx => ∃ (p : List Int) (er : Int) (G : Option Addr) (n4 c4 : Nat), candR l s j = (p, er) ∧ v9 = .slice G n4 c4 ∧ v10 = .int .i64 er ∧ Hid (Sl wx .u8 G n4 c4 p) ∧ Hid (Below wa.heap.size wa wx))
          case first =>
            have hcand : candR l s j = if j = 0 then timesR l s else if j = 1 then putD l s else if j = 2 then putDe l s else putPa l (wOf ((j - 3 : Nat) : Int)) s := rfl
            obtain ⟨p0, e0, hpe⟩ : ∃ p0 e0, candR l s j = (p0, e0) := ⟨_, _, rfl⟩
            have HPE := Lib.hid hpe
            rw [hcand] at hpe
            clear hcand
            rcases HKIND.out with ⟨rfl, h⟩ | ⟨rfl, h⟩ | ⟨rfl, h⟩ | ⟨cc, hh, rfl, h, hbox⟩
            · cases h
              rw [if_pos rfl] at hpe
              have HC := Lib.hid hpe
              clear hpe
              go_wp2_with fail
              refine (times_any _ _ _ _ l HRA.out HU.out (by omega) (by omega) s p0 e0 HC.out).mono ?_; rintro e w4 ⟨G4, n4, c4, rfl, hs4, hb4⟩
              have HS4 := Lib.hid hs4; have HB4 := Lib.hid hb4
              clear hs4 hb4
              go_wp2_with fail
              go_meet
              exact ⟨_, _, _, _, _, HPE.out, rfl, rfl, HS4, HB4⟩
            · cases h
              rw [if_neg (by decide), if_pos rfl] at hpe
              have HC := Lib.hid hpe
              clear hpe
              go_wp2_with fail
              refine (DPut_any _ _ _ _ l HRA.out HU.out (by omega) s p0 e0 HC.out).mono ?_; rintro e w4 ⟨G4, n4, c4, rfl, hs4, hb4⟩
              have HS4 := Lib.hid hs4; have HB4 := Lib.hid hb4
              clear hs4 hb4
              go_wp2_with fail
              go_meet
              exact ⟨_, _, _, _, _, HPE.out, rfl, rfl, HS4, HB4⟩
            · cases h
              rw [if_neg (by decide), if_neg (by decide), if_pos rfl] at hpe
              have HC := Lib.hid hpe
              clear hpe
              go_wp2_with fail
              refine (DePut_any _ _ _ _ l HRA.out HU.out hcap hm hn s p0 e0 HC.out).mono ?_; rintro e w4 ⟨G4, n4, c4, rfl, hs4, hb4⟩
              have HS4 := Lib.hid hs4; have HB4 := Lib.hid hb4
              clear hs4 hb4
              go_wp2_with fail
              go_meet
              exact ⟨_, _, _, _, _, HPE.out, rfl, rfl, HS4, HB4⟩
            · cases h
              rw [if_neg (by omega), if_neg (by omega), if_neg (by omega), Nat.add_sub_cancel] at hpe
              have HC := Lib.hid hpe
              have HBX := Lib.hid (hbox.below HBA.out)
              clear hpe hbox
              go_wp2_with fail
              refine (kindFn_any _ hh cc HBX.out _ _ _ l HRA.out HU.out hcap hm hn s p0 e0 HC.out).mono ?_; rintro e w4 ⟨G4, n4, c4, rfl, hs4, hb4⟩
              have HS4 := Lib.hid hs4; have HB4 := Lib.hid hb4
              clear hs4 hb4
              go_wp2_with fail
              go_meet
              exact ⟨_, _, _, _, _, HPE.out, rfl, rfl, HS4, HB4⟩
          case rest =>
            obtain ⟨p, e, G4, n4, c4, hc, rfl, rfl, hs4, hb4⟩ := hcut
            have hstep : runK l s (j + 1) = shortR (runK l s j) (p, e) := by rw [← hc]; rfl
            have HNE := Lib.hid (fun (h : e = 0) => cand_ne l s HU.out j p (by rw [hc, h]))
            have HO2 := Lib.hid (HOV.out.below hb4.out)
            have HB2 := Lib.hid (on HBA.out hb4.out)
            have hn4 := hs4.out.1.len
            clear hc hb4 c0 HKIND
            unfold shortR at hstep
            by_cases he : e = 0
            · subst he
              have hp1 := HNE.out rfl
              have hn41 : 1 ≤ n4 := by omega
              obtain ⟨b4, o4, hA4, _, _⟩ := hs4.out.1.all (by omega)
              subst hA4
              rcases HO2.out with ⟨h1, rfl⟩ | ⟨b5, o5, n5, c5, rfl, h5, hs5⟩
              · rw [if_pos ⟨rfl, .inl h1⟩] at hstep
                have HST := Lib.hid hstep
                clear hstep
                go_wp2_with fail
                go_roundw
                case rel => exact ⟨j + 1, by omega, by go_num, by rw [HST.out]; exact Lib.hid (.inr ⟨_, _, _, _, rfl, by omega, hs4.out⟩), HB2⟩
                case measure => simp [intOf] <;> omega
              · have hl5 := hs5.1.len
                have hne5 : runK l s j ≠ [] := fun h => by rw [h] at hl5; simp at hl5; omega
                by_cases hlt2 : p.length < (runK l s j).length
                · rw [if_pos ⟨rfl, .inr hlt2⟩] at hstep
                  have HST := Lib.hid hstep
                  have hlt3 : n4 < n5 := by omega
                  clear hstep hlt2 hl5 hn4 hs5
                  go_wp2_with fail
                  go_roundw
                  case rel => exact ⟨j + 1, by omega, by go_num, by rw [HST.out]; exact Lib.hid (.inr ⟨_, _, _, _, rfl, by omega, hs4.out⟩), HB2⟩
                  case measure => simp [intOf] <;> omega
                · rw [if_neg (by rintro ⟨_, h | h⟩; exact hne5 h; exact hlt2 h)] at hstep
                  have HST := Lib.hid hstep
                  have hlt3 : ¬ n4 < n5 := by omega
                  clear hstep hlt2 hl5 hn4 hs5
                  go_wp2_with fail
                  go_roundw
                  case rel => exact ⟨j + 1, by omega, by go_num, by rw [HST.out]; exact HO2, HB2⟩
                  case measure => simp [intOf] <;> omega
            · rw [if_neg (fun h => he h.1)] at hstep
              have HST := Lib.hid hstep
              have heb : (e == 0) = false := by simp [he]
              clear hstep
              go_wp2_with fail
              go_roundw
              case rel => exact ⟨j + 1, by omega, by go_num, by rw [HST.out]; exact HO2, HB2⟩
              case measure => simp [intOf] <;> omega
        · obtain rfl : j = 34 := by omega
          obtain ⟨rfl, rfl⟩ := hL.out
          obtain ⟨G, n5, c5, rfl, hs5⟩ := hov.out.sl
          go_wp2_with fail
          go_ret2
          exact ⟨_, _, _, rfl, hs5, on HB1.out hb.out⟩
    · have hL : Hid ([] = r ∧ (1 : Int) = er) := by
        have h := HL.out
        unfold runR at h
        rw [hpre, if_pos rfl] at h
        injection h with h1 h2
        exact ⟨h1, h2⟩
      obtain ⟨rfl, rfl⟩ := hL.out
      go_wp2_with fail
      go_ret2
      exact ⟨none, 0, 0, rfl, Sl.nil _ _, Below.refl _ _⟩
end Go.Proofs.YtmejoococajikaaGreat

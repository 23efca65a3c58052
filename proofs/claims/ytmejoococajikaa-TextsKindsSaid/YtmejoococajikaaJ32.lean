/- Joined texts: GlK. Each has its own head line. No condition beyond those that its theorems state. -/
import Derived.Deep.DeepCutAuto
import Derived.Test.YtmejoococajikaaJ07
import Derived.Test.YtmejoococajikaaJ09
set_option linter.unusedVariables false

/- Rle: the kinds of runs: a row of functions. -/
namespace Go.Proofs.Ytmejoococajikaa
open Go.RowKit

/-- The function of kind j. -/
def IsKind (w : World) (j : Nat) (v : Value) : Prop :=
  (j = 0 ∧ v = .func (.func 89) #[] #[]) ∨ (j = 1 ∧ v = .func (.func 32) #[] #[]) ∨ (j = 2 ∧ v = .func (.func 37) #[] #[]) ∨
    ∃ c h : Nat, j = c + 3 ∧ v = .func (.func 90) #[] #[.pointer (some ⟨h, 0, none⟩)] ∧ Ri w .i64 (some ⟨h, 0, none⟩) 1 [(c : Int)]
theorem IsKind.one {w : World} {j : Nat} {v : Value} (h : IsKind w j v) : v.oneCell' = true := by
  rcases h with ⟨_, rfl⟩ | ⟨_, rfl⟩ | ⟨_, rfl⟩ | ⟨_, _, _, rfl, _⟩ <;> rfl
theorem IsKind.map {w w' : World} {j : Nat} {v : Value} (h : IsKind w j v) (hb : ∀ (c h : Nat), Ri w .i64 (some ⟨h, 0, none⟩) 1 [(c : Int)] → Ri w' .i64 (some ⟨h, 0, none⟩) 1 [(c : Int)]) : IsKind w' j v := by
  rcases h with h | h | h | ⟨c, a, h1, h2, h3⟩
  · exact .inl h
  · exact .inr (.inl h)
  · exact .inr (.inr (.inl h))
  · exact .inr (.inr (.inr ⟨c, a, h1, h2, hb c a h3⟩))
/-- All kinds up to n. -/
def KindL (w : World) (cs : List Value) (n : Nat) : Prop := cs.length = n ∧ ∀ j v, cs[j]? = some v → IsKind w j v
theorem KindL.map {w w' : World} {cs : List Value} {n : Nat} (h : KindL w cs n) (hb : ∀ (c h : Nat), Ri w .i64 (some ⟨h, 0, none⟩) 1 [(c : Int)] → Ri w' .i64 (some ⟨h, 0, none⟩) 1 [(c : Int)]) : KindL w' cs n :=
  ⟨h.1, fun j v hv => (h.2 j v hv).map hb⟩
theorem KindL.one {w : World} {cs : List Value} {n : Nat} (h : KindL w cs n) : ∀ u ∈ cs, u.oneCell' = true := by
  intro u hu
  obtain ⟨j, hj, rfl⟩ := List.mem_iff_getElem.1 hu
  exact (h.2 j _ (List.getElem?_eq_getElem hj)).one
theorem KindL.snoc {w : World} {cs : List Value} {n c : Nat} (h : KindL w cs n) (hn : n = c + 3) (b : Nat) (hr : Ri w .i64 (some ⟨b, 0, none⟩) 1 [(c : Int)]) :
    KindL w (cs ++ [.func (.func 90) #[] #[.pointer (some ⟨b, 0, none⟩)]]) (n + 1) := by
  refine ⟨by simp [h.1], fun j v hv => ?_⟩
  rcases Nat.lt_or_ge j n with h1 | h1
  · rw [List.getElem?_append_left (by rw [h.1]; exact h1)] at hv
    exact h.2 j v hv
  · rw [List.getElem?_append_right (by rw [h.1]; exact h1), h.1] at hv
    have hj : j - n = 0 := by
      rcases Nat.eq_zero_or_pos (j - n) with h2 | h2
      · exact h2
      · rw [List.getElem?_eq_none (by simp; omega)] at hv; cases hv
    rw [hj] at hv
    injection hv with hv
    exact .inr (.inr (.inr ⟨c, b, by omega, hv.symm, hr⟩))
theorem info_kind : (Try.prog.info? 99).map (fun i => (i.zero, i.size, i.bytes)) = some (some (.agg #[.nilFunc]), 1, 8) := by kernel_rfl
/-- append onto a row of the call's own, kinds; where the new slice lies. -/
theorem wpList_kind (w : World) {ops : Array Oper} {rest : List Oper} {o : Oper} {a : Act} {Q : Exit → Act → World → Prop} (hgd : o.guard = none) (s x : Operand)
    (ho : o.op = .call { callee := .builtin .append, args := #[s, x], argTypes := #[96, 96] })
    (base : Nat) (v : Value) (n : Nat) (l : List Value) (hs : a.eval s = v) (hown : w.ownsRow base 99 1 v n l)
    (A : Option Addr) (m c : Nat) (l2 : List Value) (hx : a.eval x = .slice A m c) (hr : Rd w 1 A m l2) (h1 : ∀ u ∈ l2, u.oneCell' = true) (hb : n + m ≤ 2000000000) (hbase : base ≤ w.heap.size)
    (h : ∀ G cap w', w'.ownsRow base 99 1 (.slice G (n + m) cap) (n + m) (l ++ l2) → w.grownBy w' v.ownBlock → wpList Try.prog ops Q rest (a.put o.dst (.slice G (n + m) cap)) w') : wpList Try.prog ops Q (o :: rest) a w := by
  obtain ⟨i0, hi, hz0, hz1, hz2⟩ := info_parts info_kind
  refine wpList_append_any w hgd s x 96 ho base 99 i0 _ 1 8 Try.underlying96 hi hz0 hz1 hz2 rfl (by decide) v n _ hs hown A m c _ hx hr h1 (by unfold maxLen; omega) (by omega) hbase ?_
  intro G cap w' h1 h2 h3 h4
  exact h G cap w' h1 h2
theorem KindL.grown2 {w w' : World} {cs ds : List Value} {n m B : Nat} {t : TypeId} {v : Value} (h : KindL w ds m) (hn : 1 ≤ n) (ho : w.ownsRow B t 1 v n cs) (hp : ds[0]? = cs[0]?) (hg : w.grownBy w' v.ownBlock) : KindL w' ds m := by
  obtain ⟨G, c0, rfl⟩ := own_form ho
  obtain ⟨b, o, hA, hbl, hc⟩ := (Rd.of_own ho).2 (by omega)
  subst hA
  have hlen := ho.1
  have e0 := List.getElem?_eq_getElem (l := cs) (i := 0) (by omega)
  have k0 := hc 0 _ e0
  have f0 := h.2 0 _ (hp.trans e0)
  rcases f0 with ⟨_, f0⟩ | ⟨h0, _⟩ | ⟨h0, _⟩ | ⟨_, _, h0, _⟩
  · rw [f0] at k0
    refine h.map fun c a hr => hr.grown hg (fun g' b' o' h1 h2 => ?_)
    injection h2 with h2; injection h2 with h2 h3
    subst h2
    intro e
    have h4 : g' = b := by simp [Value.ownBlock] at h1; exact h1.symm
    have h5 : o = 0 := by
      rcases ho.2 with ⟨_, hz⟩ | ⟨g2, cap2, cur, hv, _⟩
      · omega
      · injection hv with hv; injection hv with hv; injection hv
    obtain ⟨b2, o2, h6, _, h7⟩ := hr.all (by omega)
    injection h6 with h6; injection h6 with h6 h8
    have h9 := h7 0 (by omega)
    subst h5
    rw [← h6, ← h8, ← e, h4, k0] at h9
    cases h9
  · cases h0
  · cases h0
  · cases h0

def KindsOut (w : World) (e : Ending) (w' : World) : Prop :=
  ∃ b o c cs, e = .returned (.slice (some ⟨b, o, none⟩) 34 c) ∧ 34 ≤ c ∧ b < w'.heap.size ∧ KindL w' cs 34 ∧ (∀ j v, cs[j]? = some v → w'.cell? ⟨b, o + j, none⟩ = some v) ∧ Below w.heap.size w w'
set_option maxRecDepth 100000 in
set_option maxHeartbeats 1000000 in
theorem kinds_any (w : World) : Calls Try.prog 65 #[] w (KindsOut w) := by
  go_enter Try.func65, Try.ntmps65
  go_wp2_with fail
  go_loopw [1, 7] (fun v i wr => ∃ (j : Nat) (cs : List Value), j ≤ 31 ∧ i = .int .i64 j ∧ Hid (KindL wr cs (j + 3)) ∧ Hid (wr.ownsRow w.heap.size 99 1 v (j + 3) cs) ∧ Hid (Below w.heap.size w wr)) (fun _ i _ => 31 - (intOf i).toNat)
  case atStart =>
    refine ⟨0, [.func (.func 89) #[] #[], .func (.func 32) #[] #[], .func (.func 37) #[] #[]], by omega, rfl, ⟨rfl, fun j v hv => ?_⟩, ⟨by simp, .inr ⟨w.heap.size, 3, _, rfl, Nat.le_refl _, Blk.new w _ _, Nat.le_refl _, by unfold maxLen; omega, rfl, by simp⟩⟩, (Below.refl _ _).alloc (Nat.le_refl _) _⟩
    match j, hv with
    | 0, hv => injection hv with hv; exact .inl ⟨rfl, hv.symm⟩
    | 1, hv => injection hv with hv; exact .inr (.inl ⟨rfl, hv.symm⟩)
    | 2, hv => injection hv with hv; exact .inr (.inr (.inl ⟨rfl, hv.symm⟩))
    | j + 3, hv => rw [List.getElem?_eq_none (by simp)] at hv; cases hv
  case round =>
    obtain ⟨j, cs, hj, rfl, hk, ho, hb⟩ := hrel
    have hz := hb.out.size
    by_cases hlt : j < 31
    · obtain ⟨G, c, rfl⟩ := own_form ho.out
      go_upto_region 5 with fail
      have hk1 : Hid (KindL (wr.alloc (.cells #[.int .i64 (j : Int)] 3)) cs (j + 3)) := hk.out.map fun c a h => h.alloc _
      have hbox : Hid (Ri (wr.alloc (.cells #[.int .i64 (j : Int)] 3)) .i64 (some ⟨wr.heap.size, 0, none⟩) 1 [(j : Int)]) := Lib.hid (Rd.one _ _ _)
      have ho1 : Hid ((wr.alloc (.cells #[.int .i64 (j : Int)] 3)).ownsRow w.heap.size 99 1 (.slice G (j + 3) c) (j + 3) cs) := own_below ho.out ((Below.refl _ _).alloc (Nat.le_refl _) _)
      have hb1 : Hid (Below w.heap.size w (wr.alloc (.cells #[.int .i64 (j : Int)] 3))) := hb.out.alloc (by omega) _
      have hz1 : (wr.alloc (.cells #[.int .i64 (j : Int)] 3)).heap.size = wr.heap.size + 1 := by simp
      obtain ⟨H, hH⟩ : ∃ H, H = wr.heap.size := ⟨_, rfl⟩
      rw [← hH] at hbox hz hz1 ⊢
      obtain ⟨w1, hw1⟩ : ∃ w1, w1 = wr.alloc (.cells #[.int .i64 (j : Int)] 3) := ⟨_, rfl⟩
      rw [← hw1] at hbox hk1 ho1 hb1 hz1 ⊢
      have HZ1 := Lib.hid hz1
      have hz2 : w.heap.size ≤ w1.heap.size := by omega
      clear hw1 hH hk ho hb hz1
      go_wp2_with (at_builtin; refine wpList_kind _ rfl _ _ rfl w.heap.size _ (j + 3) cs rfl (own_below ho1.out ((Below.refl _ _).alloc (Nat.le_refl _) _)) _ 1 1 [.func (.func 90) #[] #[.pointer (some ⟨H, 0, none⟩)]] rfl (Rd.one _ _ _) (by simp [Value.oneCell']) (by omega) (by simp; omega) ?_; intro G2 c2 w7 hown hgr)
      have hk2 : KindL (w1.alloc (.cells #[.func (.func 90) #[] #[.pointer (some ⟨H, 0, none⟩)]] 99)) (cs ++ [.func (.func 90) #[] #[.pointer (some ⟨H, 0, none⟩)]]) (j + 3 + 1) := (hk1.out.map fun c a h => h.alloc _).snoc rfl H (hbox.out.alloc _)
      have hk3 := KindL.grown2 hk2 (by omega) (own_below ho1.out ((Below.refl _ _).alloc (Nat.le_refl _) _)) (by simp [hk1.out.1]) hgr
      have HK3 := Lib.hid hk3; have HO3 := Lib.hid hown; have HB3 := Lib.hid (push_ hb1.out (Nat.le_refl _) ho1.out hgr)
      clear hk2 hk3 hown hgr
      go_wp2_with fail
      go_roundw
      case rel => exact ⟨j + 1, _, by omega, by go_num, HK3, HO3, HB3⟩
      case measure => simp [intOf] <;> omega
    · obtain rfl : j = 31 := by omega
      obtain ⟨G, c, rfl⟩ := own_form ho.out
      go_wp2_with fail
      go_ret
      obtain ⟨b, o, hA, hbl, hc⟩ := (Rd.of_own ho.out).2 (by omega)
      subst hA
      exact ⟨b, o, c, cs, rfl, (own_cap ho.out).1, hbl, hk.out, hc, hb.out⟩
end Go.Proofs.Ytmejoococajikaa

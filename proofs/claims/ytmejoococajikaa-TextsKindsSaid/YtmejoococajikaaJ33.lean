/- Joined texts: RowP, PAdd. Each has its own head line. No condition beyond those that its theorems state. -/
import Derived.Deep.RegionWith
import Derived.Test.YtmejoococajikaaJ07
import Derived.Test.YtmejoococajikaaJ11
import Derived.Test.YtmejoococajikaaJ09
set_option linter.unusedVariables false

/- Words for rows of pairs (two cells each). -/
namespace Go.Proofs.Ytmejoococajikaa
open Go.RowKit

def cellsP (l : List (Int × Int)) : List Value := l.flatMap fun p => [.int .i64 p.1, .int .u64 p.2]
theorem cellsP_len (l : List (Int × Int)) : (cellsP l).length = l.length * 2 := by
  induction l with
  | nil => rfl
  | cons v t ih => simp only [cellsP, List.flatMap_cons, List.length_append, List.length_cons] at ih ⊢; rw [ih]; simp; omega
theorem cellsP_append (a b : List (Int × Int)) : cellsP (a ++ b) = cellsP a ++ cellsP b := by simp [cellsP]
theorem cellsP_get (l : List (Int × Int)) : ∀ j : Nat, j < l.length → (cellsP l)[j * 2]? = some (.int .i64 (l.getD j (0, 0)).1) ∧ (cellsP l)[j * 2 + 1]? = some (.int .u64 (l.getD j (0, 0)).2) := by
  induction l with
  | nil => intro j h; simp at h
  | cons v t ih =>
    intro j h
    cases j with
    | zero => exact ⟨by simp [cellsP], by simp [cellsP]⟩
    | succ j =>
      obtain ⟨h1, h2⟩ := ih j (by simpa using h)
      have e : cellsP (v :: t) = [.int .i64 v.1, .int .u64 v.2] ++ cellsP t := by simp [cellsP]
      rw [e]
      refine ⟨?_, ?_⟩
      · rw [List.getElem?_append_right (by simp; omega), show (j + 1) * 2 - [Value.int .i64 v.1, .int .u64 v.2].length = j * 2 from by simp; omega]; simpa using h1
      · rw [List.getElem?_append_right (by simp; omega), show (j + 1) * 2 + 1 - [Value.int .i64 v.1, .int .u64 v.2].length = j * 2 + 1 from by simp; omega]; simpa using h2
theorem cellsP_one (l : List (Int × Int)) : ∀ u ∈ cellsP l, u.oneCell' = true := by
  intro u hu
  obtain ⟨v, _, hv⟩ := List.mem_flatMap.1 hu
  simp at hv
  rcases hv with rfl | rfl <;> rfl
/-- A slice of n pairs that reads as l. -/
def Rp (w : World) (A : Option Addr) (n : Nat) (l : List (Int × Int)) : Prop := Rd w 2 A n (cellsP l)
theorem Rp.len {w : World} {A : Option Addr} {n : Nat} {l : List (Int × Int)} (h : Rp w A n l) : l.length = n := by have := h.1; rw [cellsP_len] at this; omega
theorem Rp.of_own {w : World} {A : Option Addr} {n : Nat} {l : List (Int × Int)} {base : Nat} {e : TypeId} {c : Nat} (h : w.ownsRow base e 2 (.slice A n c) n (cellsP l)) : Rp w A n l := Rd.of_own h
theorem Rp.at_ {w : World} {A : Option Addr} {n : Nat} {l : List (Int × Int)} (h : Rp w A n l) {j : Nat} (hj : j < n) : ∃ b o, A = some ⟨b, o, none⟩ ∧ b < w.heap.size ∧ w.cell? ⟨b, o + j * 2, none⟩ = some (.int .i64 (l.getD j (0, 0)).1) ∧ w.cell? ⟨b, o + j * 2 + 1, none⟩ = some (.int .u64 (l.getD j (0, 0)).2) := by
  obtain ⟨b, o, e, hb, hc⟩ := h.2 (by omega)
  obtain ⟨h1, h2⟩ := cellsP_get l j (by rw [h.len]; exact hj)
  exact ⟨b, o, e, hb, hc _ _ h1, by rw [Nat.add_assoc]; exact hc _ _ h2⟩
theorem Rp.one_at {w : World} {x y : Int} {t : TypeId} {g : Nat} (h : g = w.heap.size) : Rp (w.alloc (.cells #[.int .i64 x, .int .u64 y] t)) (some ⟨g, 0, none⟩) 1 [(x, y)] := by
  subst h
  refine ⟨rfl, fun _ => ⟨_, 0, rfl, by simp, fun j u hu => ?_⟩⟩
  rw [(Blk.new w t _).cell, Nat.zero_add]
  simpa [cellsP] using hu
theorem info_pair : (Try.prog.info? 139).map (fun i => (i.zero, i.size, i.bytes)) = some (some (.agg #[.int .i64 0, .int .u64 0]), 2, 16) := by kernel_rfl
/-- append onto a row of the call's own, pairs; where the new slice lies. -/
theorem wpList_pairx (w : World) {ops : Array Oper} {rest : List Oper} {o : Oper} {a : Act} {Q : Exit → Act → World → Prop} (hgd : o.guard = none) (s x : Operand)
    (ho : o.op = .call { callee := .builtin .append, args := #[s, x], argTypes := #[133, 133] })
    (base : Nat) (v : Value) (n : Nat) (l : List (Int × Int)) (hs : a.eval s = v) (hown : w.ownsRow base 139 2 v n (cellsP l))
    (A : Option Addr) (m c : Nat) (l2 : List (Int × Int)) (hx : a.eval x = .slice A m c) (hr : Rp w A m l2) (hb : n + m ≤ 2000000000) (hbase : base ≤ w.heap.size)
    (h : ∀ G cap w', w'.ownsRow base 139 2 (.slice G (n + m) cap) (n + m) (cellsP (l ++ l2)) → w.grownBy w' v.ownBlock → n + m ≤ cap → ((Value.slice G (n + m) cap).ownBlock = v.ownBlock ∨ (Value.slice G (n + m) cap).ownBlock = some w.heap.size) → wpList Try.prog ops Q rest (a.put o.dst (.slice G (n + m) cap)) w') : wpList Try.prog ops Q (o :: rest) a w := by
  obtain ⟨i0, hi, hz0, hz1, hz2⟩ := info_parts info_pair
  refine wpList_append_any w hgd s x 133 ho base 139 i0 _ 2 16 Try.underlying133 hi hz0 hz1 hz2 rfl (by decide) v n _ hs hown A m c _ hx hr (cellsP_one _) (by unfold maxLen; omega) (by omega) hbase ?_
  intro G cap w' h1 h2 h3 h4
  rw [← cellsP_append] at h1
  exact h G cap w' h1 h2 h4 h3
end Go.Proofs.Ytmejoococajikaa

/- The closure of patched.cut that adds a pair. -/
namespace Go.Proofs.Ytmejoococajikaa
open Go.RowKit

/-- The world while numbers are cut: the run, the last place, the two rows. -/
def CutW (S : Nat) (w0 w : World) (base : Int) (lo : List Int) (P : List (Int × Int)) (g p last : Int) : Prop :=
  ∃ lv pv, Blk w S 135 #[.int .i64 base, lv, pv, .int .i64 g, .int .i64 p] ∧ Blk w (S + 1) 3 #[.int .i64 last] ∧
    w.ownsRow (S + 2) 43 1 lv lo.length (lo.map (Value.int .u64)) ∧ w.ownsRow (S + 2) 139 2 pv P.length (cellsP P) ∧ Apart pv lv ∧ Below S w0 w
def bigger (a : Int) (b : Nat) : Int := if a < (b : Int) then (b : Int) else a

theorem cut_push {S : Nat} {w0 w w1 : World} {base g p last : Int} {lo : List Int} {P P2 : List (Int × Int)} {lv pv v : Value} {o : Obj} (_hS : w0.heap.size = S)
    (hr : Blk w S 135 #[.int .i64 base, lv, pv, .int .i64 g, .int .i64 p]) (hla : Blk w (S + 1) 3 #[.int .i64 last])
    (hlo : w.ownsRow (S + 2) 43 1 lv lo.length (lo.map (Value.int .u64))) (hpo : w.ownsRow (S + 2) 139 2 pv P.length (cellsP P)) (hap : Apart pv lv) (hb : Below S w0 w)
    (hown : w1.ownsRow (S + 2) 139 2 v P2.length (cellsP P2)) (hg : (w.alloc o).grownBy w1 pv.ownBlock) (hat : v.ownBlock = pv.ownBlock ∨ v.ownBlock = some (w.alloc o).heap.size) :
    Blk w1 S 135 #[.int .i64 base, lv, pv, .int .i64 g, .int .i64 p] ∧ CutW S w0 (w1.setCell ⟨S, 2, none⟩ v) base lo P2 g p last := by
  have hn : ∀ k, k < S + 2 → some k ≠ pv.ownBlock := fun k hk e => by have := (hpo.lt k e.symm).1; omega
  have h1 := (hr.alloc o).grown hg (hn S (by omega))
  have h2 := (hla.alloc o).grown hg (hn (S + 1) (by omega))
  have hlo1 := hap.kept (own_below hlo ((Below.refl _ _).alloc (Nat.le_refl _) o)) hg
  have hz := hla.lt
  refine ⟨h1, lv, v, h1.set_ 2 v, h2.far (by simp) _, ownsRow_setCell_below hlo1 (by simp) _, ownsRow_setCell_below hown (by simp) _, ?_, ?_⟩
  · exact hap.grown (own_below hlo ((Below.refl _ _).alloc (Nat.le_refl _) o)) (Nat.le_refl _) hat
  · refine Below.setCell ?_ (by simp) _
    exact below_of_grown (hb.alloc (by have := hb.size; omega) o) hg (by simp; omega) (fun k e => by have := (hpo.lt k e).1; omega)

theorem CutW.set_g {S : Nat} {w0 W : World} {base g p last : Int} {lo : List Int} {P : List (Int × Int)} (h : CutW S w0 W base lo P g p last) (x : Int) : CutW S w0 (W.setCell ⟨S, 3, none⟩ (.int .i64 x)).drew base lo P x p last := by
  obtain ⟨lv, pv, hr, hla, hlo, hpo, hap, hb⟩ := h
  exact ⟨lv, pv, (hr.set_ 3 (.int .i64 x)).drew, (hla.far (p := ⟨S, 3, none⟩) (by simp) _).drew, (ownsRow_setCell_below hlo (by simp) _).drew, (ownsRow_setCell_below hpo (by simp) _).drew, hap, (hb.setCell (p := ⟨S, 3, none⟩) (Nat.le_refl _) _).drew⟩
theorem CutW.set_p {S : Nat} {w0 W : World} {base g p last : Int} {lo : List Int} {P : List (Int × Int)} (h : CutW S w0 W base lo P g p last) (x : Int) : CutW S w0 (W.setCell ⟨S, 4, none⟩ (.int .i64 x)).drew base lo P g x last := by
  obtain ⟨lv, pv, hr, hla, hlo, hpo, hap, hb⟩ := h
  exact ⟨lv, pv, (hr.set_ 4 (.int .i64 x)).drew, (hla.far (p := ⟨S, 4, none⟩) (by simp) _).drew, (ownsRow_setCell_below hlo (by simp) _).drew, (ownsRow_setCell_below hpo (by simp) _).drew, hap, (hb.setCell (p := ⟨S, 4, none⟩) (Nat.le_refl _) _).drew⟩
theorem CutW.set_l {S : Nat} {w0 W : World} {base g p last : Int} {lo : List Int} {P : List (Int × Int)} (h : CutW S w0 W base lo P g p last) (x : Int) : CutW S w0 (W.setCell ⟨S + 1, 0, none⟩ (.int .i64 x)) base lo P g p x := by
  obtain ⟨lv, pv, hr, hla, hlo, hpo, hap, hb⟩ := h
  exact ⟨lv, pv, hr.far (p := ⟨S + 1, 0, none⟩) (by simp) _, hla.set_ 0 (.int .i64 x), ownsRow_setCell_below hlo (by simp) _, ownsRow_setCell_below hpo (by simp) _, hap, hb.setCell (p := ⟨S + 1, 0, none⟩) (by simp) _⟩

set_option maxRecDepth 100000 in
set_option maxHeartbeats 2000000 in
theorem add_any (w0 w : World) (S : Nat) (hS : w0.heap.size = S) (base : Int) (lo : List Int) (P : List (Int × Int)) (g p last : Int) (h : CutW S w0 w base lo P g p last) (gap patch : Int)
    (hg : 0 ≤ gap ∧ gap ≤ 1000) (hp : 0 ≤ patch ∧ patch < 18446744073709551616) (hP : P.length ≤ 100000) (hl : 0 ≤ last ∧ last ≤ 1000000) :
    Calls Try.prog 106 #[.int .i64 gap, .int .u64 patch, .pointer (some ⟨S, 0, none⟩), .pointer (some ⟨S + 1, 0, none⟩)] w
      fun e w' => e = .returned (.tuple #[]) ∧ CutW S w0 w' base lo (P ++ [(gap, patch)]) (bigger g (blen gap.toNat)) (bigger p (blen patch.toNat)) (last + gap) := by
  obtain ⟨lv, pv, hr, hla, hlo, hpo, hap, hb⟩ := h
  have c2 : w.cell? ⟨S, 2, none⟩ = some pv := (hr.cell 2).trans rfl
  have HR := Lib.hid hr; have HLA := Lib.hid hla; have HLO := Lib.hid hlo; have HPO := Lib.hid hpo; have HAP := Lib.hid hap; have HB := Lib.hid hb
  have hlt := hr.lt; have hlt2 := hla.lt
  clear hr hla hlo hpo hap hb
  have hwr : IntKind.u64.wrap gap = gap := by rw [IntKind.wrap_u64]; omega
  obtain ⟨hg1, hg2⟩ := hg
  obtain ⟨hp1, hp2⟩ := hp
  go_enter Try.func106, Try.ntmps106
  go_wp2_with (at_builtin; refine wpList_pairx _ rfl _ _ rfl (S + 2) pv P.length P rfl (own_below HPO.out ((Below.refl _ _).alloc (Nat.le_refl _) _)) _ 1 1 [_] rfl (Rp.one_at rfl) (by omega) (by simp; omega) ?_; intro G c w1 hown hgrow hcap hat; have hm := cut_push hS HR.out HLA.out HLO.out HPO.out HAP.out HB.out (P2 := P ++ [(gap, patch)]) (by rw [List.length_append]; exact hown) hgrow hat; obtain ⟨hk1, hm⟩ := hm; have f2 := hk1.frozen 2; have d2 : w1.cell? ⟨S, 2, none⟩ = some pv := (hk1.cell 2).trans rfl; have HM := Lib.hid hm; clear hm hk1 hown hgrow hat)
  generalize w1.setCell ⟨S, 2, none⟩ (.slice G (P.length + 1) c) = W at *
  obtain ⟨lv, pv, hr, hla, hlo, hpo, hap, hb⟩ := HM.out
  have c3 : W.cell? ⟨S, 3, none⟩ = some (.int .i64 g) := (hr.cell 3).trans rfl
  have g3 := hr.frozen 3
  have HR := Lib.hid hr; have HLA := Lib.hid hla; have HLO := Lib.hid hlo; have HPO := Lib.hid hpo; have HAP := Lib.hid hap; have HB := Lib.hid hb
  clear hr hla hlo hpo hap hb HM f2 d2 c2
  have HM := Lib.hid (show CutW S w0 W base lo (P ++ [(gap, patch)]) g p last from ⟨lv, pv, HR.out, HLA.out, HLO.out, HPO.out, HAP.out, HB.out⟩)
  clear HR HLA HLO HPO HB HAP
  have hG1 : (if g < ↑(blen gap.toNat) then ↑(blen gap.toNat) else g) = bigger g (blen gap.toNat) := rfl
  have hG2 : (if p < ↑(blen patch.toNat) then ↑(blen patch.toNat) else p) = bigger p (blen patch.toNat) := rfl
  have HG1 := Lib.hid hG1; have HG2 := Lib.hid hG2; clear hG1 hG2
  go_region_with (go_at_call 67; refine (Bits_any _ _ (by omega) (by omega)).mono ?_; rintro e w' ⟨rfl, rfl⟩)
  all_goals
    rw [HG1.out]
    have hm := CutW.set_g HM.out (bigger g (blen gap.toNat))
    obtain ⟨gb, hgb⟩ : ∃ gb, bigger g (blen gap.toNat) = gb := ⟨_, rfl⟩
    rw [hgb] at hm ⊢
    have HGB := Lib.hid hgb; clear hgb
    have HM2 := Lib.hid hm
    generalize (W.setCell ⟨S, 3, none⟩ (.int .i64 gb)).drew = W2 at *
    clear HM hm c3 g3 HG1
    obtain ⟨lv2, pv2, hr, _, _, _, _, _⟩ := HM2.out
    have c4 : W2.cell? ⟨S, 4, none⟩ = some (.int .i64 p) := (hr.cell 4).trans rfl
    have g4 := hr.frozen 4
    clear hr
    go_wp2_with fail
    go_region_with (go_at_call 67; refine (Bits_any _ _ (by omega) (by omega)).mono ?_; rintro e w' ⟨rfl, rfl⟩)
    all_goals
      rw [HG2.out]
      have hm := CutW.set_p HM2.out (bigger p (blen patch.toNat))
      obtain ⟨pb, hpb⟩ : ∃ gb, bigger p (blen patch.toNat) = gb := ⟨_, rfl⟩
      rw [hpb] at hm ⊢
      have HPB := Lib.hid hpb; clear hpb
      have HM3 := Lib.hid hm
      generalize (W2.setCell ⟨S, 4, none⟩ (.int .i64 pb)).drew = W3 at *
      clear HM2 hm c4 g4 HG2
      obtain ⟨lv3, pv3, _, hla, _, _, _, _⟩ := HM3.out
      have c5 : W3.cell? ⟨S + 1, 0, none⟩ = some (.int .i64 last) := (hla.cell 0).trans rfl
      have g5 := hla.frozen 0
      clear hla
      go_wp2_with fail
      go_end0
      rw [HGB.out, HPB.out]
      exact ⟨rfl, CutW.set_l HM3.out _⟩
end Go.Proofs.Ytmejoococajikaa

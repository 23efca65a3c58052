/- Joined texts: Runs, Bridge, RangeL. Each has its own head line. No condition beyond those that its theorems state. -/
import Derived.RangeFuncNested
import Derived.RangeFuncBound
import Derived.RangeFuncCalls
import Derived.RangeFuncLeaves
import Derived.OwnWalkIn
import Derived.Deep.CutBlock
import Derived.Deep.DeepCutAuto
import Derived.TacticsInMore
import Derived.LoopNIn
import Derived.LoopIn
import Derived.Test.YtbmooemlekckbaaDoorJ28
import Derived.Test.YtbmooemlekckbaaDoorJ26
set_option linter.unusedVariables false

/- byterle's iterator over runs. -/
namespace Go.Proofs.YtbmooemlekckbaaDoor
open Go.RowKit
attribute [local go_sem] Oper.semAt_some

def RunsOut (J : List Int → World → Prop) (e : Ending) (W' : World) : Prop := (∃ v, e = .returned v) ∧ J [] W'
/-- The iterator's variable holds what is left. -/
def RunsW (w0 wr : World) (Bn n : Nat) (J : List Int → World → Prop) (rest : List Int) : Prop :=
  ∃ A c, Blk wr Bn 27 #[.slice A rest.length c] ∧ Ri w0 .u8 A rest.length rest ∧ U8 rest ∧ rest.length ≤ c ∧ c ≤ 9223372036854775807 ∧ rest.length ≤ n ∧ J rest wr

theorem runs_rel {w0 V : World} {b o Bn n q c m : Nat} {rest : List Int} {J : List Int → World → Prop} (hri : Ri w0 .u8 (some ⟨b, o, none⟩) q rest) (hu : U8 rest) (hq : q = rest.length) (hc : q ≤ c) (hcm : c ≤ 9223372036854775807) (hln : q ≤ n) (hm : m ≤ q)
    (hb : Blk V Bn 27 #[.slice (some ⟨b, o, none⟩) q c]) (hj : J (rest.drop m) V) (hJs : ∀ rest V v c, J rest V → Blk V Bn 27 c → J rest (V.setCell ⟨Bn, 0, none⟩ v)) :
    Hid (RunsW w0 (V.setCell ⟨Bn, 0, none⟩ (.slice (if c = m then some ⟨b, o, none⟩ else some ⟨b, o + m, none⟩) (q - m) (c - m))) Bn n J (rest.drop m)) := by
  have hl : (rest.drop m).length = q - m := by rw [List.length_drop, hq]
  refine ⟨(if c = m then some ⟨b, o, none⟩ else some ⟨b, o + m, none⟩), c - m, ?_, ?_, hu.drop m, ?_, ?_, ?_, hJs _ _ _ _ hj hb⟩
  · rw [hl]; exact hb.set_ 0 _
  · rw [hl]; exact hri.restIf hm hc
  · rw [hl]; omega
  · omega
  · rw [hl]; omega

set_option maxRecDepth 100000 in
set_option maxHeartbeats 2000000 in
theorem runs1_any (w0 W : World) (l Bn n N : Nat) (lst : List Int) (J : List Int → World → Prop)
    (hJb : ∀ rest V, J rest V → Below w0.heap.size w0 V)
    (hJd : ∀ rest V m, J rest V → J rest (V.drewN m))
    (hJs : ∀ rest V v c, J rest V → Blk V Bn 27 c → J rest (V.setCell ⟨Bn, 0, none⟩ v))
    (hY : ∀ rest V c, J rest V → 0 < rest.length → U8 rest → Blk V Bn 27 c → YieldAt Fence.wide N Tryd.prog l #[.int .u8 (rest.getD 0 0), .int .i64 (runN rest)] V fun e V' => e = .returned (.bool true) ∧ J (rest.drop (runN rest)) V' ∧ Blk V' Bn 27 c)
    (h : RunsW w0 W Bn n J lst) :
    Calls Tryd.prog 40 #[.func (.yield l) #[] #[], .pointer (some ⟨Bn, 0, none⟩)] W (RunsOut J) := by
  have H := Lib.hid h; have HJB := Lib.hid hJb; have HJD := Lib.hid hJd; have HJS := Lib.hid hJs; have HY := Lib.hid hY
  clear h hJb hJd hJs hY
  go_enter Tryd.func40, Tryd.ntmps40
  go_wp2_with fail
  go_loopw [3] (fun _ wr => ∃ rest : List Int, Hid (RunsW w0 wr Bn n J rest)) (fun _ wr => lenAt wr Bn)
  case atStart => exact ⟨lst, H⟩
  case round =>
    obtain ⟨rest, hr⟩ := hrel
    obtain ⟨A, c, hb, hri, hu, hc, hcm, hln, hj⟩ := hr.out
    obtain ⟨q, hq⟩ : ∃ q, q = rest.length := ⟨_, rfl⟩
    rw [← hq] at hb hri hc hln
    have c1 : wr.cell? ⟨Bn, 0, none⟩ = some (.slice A q c) := hb.cell 0
    have HB := Lib.hid hb; have HRI := Lib.hid hri; have HU := Lib.hid hu; have HJ := Lib.hid hj; have HQ := Lib.hid hq
    clear hb hri hu hj hq hr
    rcases Nat.eq_zero_or_pos q with h0 | h0
    · subst h0
      have hnil : rest = [] := List.eq_nil_of_length_eq_zero HQ.out.symm
      go_wp2_with fail
      go_end0
      exact ⟨⟨_, rfl⟩, by rw [← hnil]; exact HJ.out⟩
    · obtain ⟨b, o, hA, hbl, hcell⟩ := HRI.out.all h0
      subst hA
      have hbe := HJB.out _ _ HJ.out
      have hx0 := getD_u8 HU.out 0
      have g0 := (hbe.cell (p := ⟨b, o + 0, none⟩) hbl).trans (hcell 0 h0)
      rw [Nat.add_zero] at g0
      obtain ⟨x0, hx0e⟩ : ∃ x0, x0 = rest.getD 0 0 := ⟨_, rfl⟩
      rw [← hx0e] at g0 hx0
      have HX0 := Lib.hid hx0e; clear hx0e
      have HBE := Lib.hid hbe; have HC := Lib.hid hcell
      clear hbe hcell
      go_wp2_with fail
      go_loopw [3] (fun i wi => ∃ m : Nat, 1 ≤ m ∧ m ≤ 130 ∧ m ≤ q ∧ i = .int .i64 m ∧ Hid (∀ j, j < m → rest.getD j 0 = rest.getD 0 0) ∧ Hid (∃ nq, wi = wr.drewN nq)) (fun i _ => 130 - (intOf i).toNat)
      case atStart =>
        refine ⟨1, by omega, by omega, by omega, rfl, Lib.hid fun j hj => ?_, Lib.hid ⟨0, rfl⟩⟩
        rw [show j = 0 from by omega]
      case round =>
        obtain ⟨m, hm1, hm2, hm3, rfl, hall, hnq⟩ := hrel
        obtain ⟨n1, rfl⟩ := hnq.out
        have HQc := HQ.out
        by_cases hgo : m < q ∧ m < 130 ∧ rest.getD m 0 = rest.getD 0 0
        · obtain ⟨hlt, h130, heq⟩ := hgo
          have hb1 : decide (m < q) = true := decide_eq_true (by omega)
          have hb2 : decide ((m : Int) < 130) = true := decide_eq_true (by omega)
          have g1 := (HBE.out.cell (p := ⟨b, o + m, none⟩) hbl).trans (HC.out m hlt)
          have hnew : Hid (∀ j, j < m + 1 → rest.getD j 0 = rest.getD 0 0) := by
            intro j hj
            rcases Nat.lt_or_ge j m with h | h
            · exact hall.out j h
            · rw [show j = m from by omega]; exact heq
          rw [heq, ← HX0.out] at g1
          clear heq hall HQc
          have hb3 : (x0 == x0) = true := by simp
          go_wp2_with fail
          go_quiet (fail)
          go_wp2_with fail
          go_roundw
          case rel => exact ⟨m + 1, by omega, by omega, by omega, by go_num, hnew, _, rfl⟩
          case measure => simp [intOf] <;> omega
        · have hrun := runN_eq rest m hm1 hm2 (by omega) hall.out (by
            by_cases h1 : m = 130
            · exact .inl h1
            · by_cases h2 : m = rest.length
              · exact .inr (.inl h2)
              · exact .inr (.inr (fun h3 => hgo ⟨by omega, by omega, h3⟩)))
          have hcases : (q ≤ m) ∨ (m < q ∧ 130 ≤ m) ∨ (m < q ∧ m < 130 ∧ Hid (rest.getD m 0 ≠ rest.getD 0 0)) := by
            rcases Nat.lt_or_ge m q with h1 | h1
            · rcases Nat.lt_or_ge m 130 with h2 | h2
              · exact .inr (.inr ⟨h1, h2, fun h3 => hgo ⟨h1, h2, h3⟩⟩)
              · exact .inr (.inl ⟨h1, h2⟩)
            · exact .inl h1
          have HRUN := Lib.hid hrun
          clear hgo hrun HQc
          rcases hcases with h1 | ⟨h1, h2⟩ | ⟨h1, h2, h3⟩
          · have hb1 : decide (m < q) = false := decide_eq_false (by omega)
            go_wp2_with fail
            go_quiet (fail)
            go_upto_region 4 with (fail)
            rw [World.drewN_drewN]
            have hround := HY.out rest (wr.drewN (n1 + nq)) _ (HJD.out _ _ _ HJ.out) (by rw [← HQ.out]; exact h0) HU.out (HB.out.drewN _)
            rw [HRUN.out, ← HX0.out] at hround
            obtain ⟨fn, tmps, assign, body, hy, hR⟩ := hround
            have HRR := tuck hR; clear hR
            refine (wpIn_wide (n := N + 1)).1 ?_
            gi_wp2
            refine (untuck HRR).mono ?_; rintro e V' ⟨rfl, hj2, hb2⟩
            have c3 : V'.cell? ⟨Bn, 0, none⟩ = some (.slice (some ⟨b, o, none⟩) q c) := hb2.cell 0
            have f3 := hb2.frozen 0
            have HJ2 := Lib.hid hj2; have HB2 := Lib.hid hb2
            have hm4 : (m : Int) ≤ c := by omega
            clear hj2 hb2 hy HRR
            gi_wp2
            go_wp2_with fail
            have hrel := runs_rel HRI.out HU.out HQ.out hc hcm hln hm3 HB2.out HJ2.out HJS.out
            rw [show q - m = 0 from by omega] at hrel
            go_roundw
            case rel => exact ⟨_, hrel⟩
            case measure =>
              rw [lenAt_of HB.out, lenAt_of (HB2.out.set_ 0 _)]
              omega
          · have hb1 : decide (m < q) = true := decide_eq_true (by omega)
            have hb2 : decide ((m : Int) < 130) = false := decide_eq_false (by omega)
            go_wp2_with fail
            go_quiet (fail)
            go_upto_region 4 with (fail)
            rw [World.drewN_drewN]
            have hround := HY.out rest (wr.drewN (n1 + nq)) _ (HJD.out _ _ _ HJ.out) (by rw [← HQ.out]; exact h0) HU.out (HB.out.drewN _)
            rw [HRUN.out, ← HX0.out] at hround
            obtain ⟨fn, tmps, assign, body, hy, hR⟩ := hround
            have HRR := tuck hR; clear hR
            refine (wpIn_wide (n := N + 1)).1 ?_
            gi_wp2
            refine (untuck HRR).mono ?_; rintro e V' ⟨rfl, hj2, hb2⟩
            have c3 : V'.cell? ⟨Bn, 0, none⟩ = some (.slice (some ⟨b, o, none⟩) q c) := hb2.cell 0
            have f3 := hb2.frozen 0
            have HJ2 := Lib.hid hj2; have HB2 := Lib.hid hb2
            have hm4 : (m : Int) ≤ c := by omega
            clear hj2 hb2 hy HRR
            gi_wp2
            go_wp2_with fail
            have hrel := runs_rel HRI.out HU.out HQ.out hc hcm hln hm3 HB2.out HJ2.out HJS.out
            rw [if_neg (by omega)] at hrel
            go_roundw
            case rel => exact ⟨_, hrel⟩
            case measure =>
              rw [lenAt_of HB.out, lenAt_of (HB2.out.set_ 0 _)]
              omega
          · have hb1 : decide (m < q) = true := decide_eq_true (by omega)
            have hb2 : decide ((m : Int) < 130) = true := decide_eq_true (by omega)
            have hx1 := getD_u8 HU.out m
            obtain ⟨y0, hy0⟩ : ∃ y0, y0 = rest.getD m 0 := ⟨_, rfl⟩
            have g1 := (HBE.out.cell (p := ⟨b, o + m, none⟩) hbl).trans (HC.out m h1)
            rw [← hy0] at g1 hx1
            have hb3 : (y0 == x0) = false := by rw [beq_eq_false_iff_ne, hy0, HX0.out]; exact h3.out
            clear hy0
            go_wp2_with fail
            go_quiet (fail)
            go_upto_region 4 with (fail)
            rw [World.drewN_drewN]
            have hround := HY.out rest (wr.drewN (n1 + nq)) _ (HJD.out _ _ _ HJ.out) (by rw [← HQ.out]; exact h0) HU.out (HB.out.drewN _)
            rw [HRUN.out, ← HX0.out] at hround
            obtain ⟨fn, tmps, assign, body, hy, hR⟩ := hround
            have HRR := tuck hR; clear hR
            refine (wpIn_wide (n := N + 1)).1 ?_
            gi_wp2
            refine (untuck HRR).mono ?_; rintro e V' ⟨rfl, hj2, hb2⟩
            have c3 : V'.cell? ⟨Bn, 0, none⟩ = some (.slice (some ⟨b, o, none⟩) q c) := hb2.cell 0
            have f3 := hb2.frozen 0
            have HJ2 := Lib.hid hj2; have HB2 := Lib.hid hb2
            have hm4 : (m : Int) ≤ c := by omega
            clear hj2 hb2 hy HRR
            gi_wp2
            go_wp2_with fail
            have hrel := runs_rel HRI.out HU.out HQ.out hc hcm hln hm3 HB2.out HJ2.out HJS.out
            rw [if_neg (by omega)] at hrel
            go_roundw
            case rel => exact ⟨_, hrel⟩
            case measure =>
              rw [lenAt_of HB.out, lenAt_of (HB2.out.set_ 0 _)]
              omega
end Go.Proofs.YtbmooemlekckbaaDoor

/- A round of a loop over a function: what holds of an operation outside holds in the round. -/
namespace Go.Proofs.YtbmooemlekckbaaDoor
open Go.RowKit
variable {P : Program} {l n : Nat} {Q : Exit → Act → World → Prop}

theorem opIn_of_op {o : Oper} {a : Act} {w : World} {K : Act → World → Prop} (hnd : ∀ c, o.op ≠ .defer c) (h : o.wp P a w K Q) : o.wpIn (Fence.wide.inRound l) n P a w K Q := by
  refine ⟨fun _ _ => trivial, ?_⟩
  rw [show (Fence.wide.inRound l).round = some l from rfl, Oper.semAt_some l _ _ hnd]
  unfold Oper.wp at h
  generalize (execOp a.eval o).run P w = r at *
  cases r with
  | ok x w' =>
    cases x <;> simp only [Oper.upon, Oper.uponIn] at h ⊢ <;> first
      | exact h
      | exact ⟨fun h => (by cases h), CallsIn.inRound l (callsIn_wide.2 h)⟩
      | exact ⟨fun h => (by cases h), fun c cs _ => (let ⟨v, w2, r, s⟩ := h c cs; ⟨v, w2, r, stepsIn_wide.2 s⟩)⟩
      | exact h.elim
  | halt x w' => cases x <;> simp only [Oper.upon, Oper.uponIn] at h ⊢ <;> first | exact h | exact h.elim
theorem wpOpIn_of {ops : Array Oper} {i : Nat} {a : Act} {w : World} {K K' : Act → World → Prop} (hnd : ∀ o ∈ ops.toList, ∀ c, o.op ≠ .defer c) (hq : ¬ LetsOut Q) (hk : ∀ a w, K a w → K' a w) (h : wpOp P ops Q i K a w) : wpOpIn (Fence.wide.inRound l) n P ops Q i K' a w := by
  unfold wpOp at h
  unfold wpOpIn
  cases ho : ops[i]? with
  | none => rw [ho] at h; exact hk _ _ h
  | some o =>
    rw [ho] at h
    simp only at h ⊢
    split at h
    · rename_i hw
      rw [if_pos hw]
      have h2 := h.resolve_right (fun h3 => hq h3.2)
      exact opIn_of_op (hnd o (by obtain ⟨h3, h4⟩ := Array.getElem?_eq_some_iff.1 ho; rw [← h4]; simp)) (Oper.wp_mono hk h2)
    · rename_i hw
      rw [if_neg hw]
      exact ⟨fun _ _ => trivial, hk _ _ h⟩
theorem wpAnyIn_of {ops : Array Oper} {md : Region.Mode} (hnd : ∀ o ∈ ops.toList, ∀ c, o.op ≠ .defer c) (hq : ¬ LetsOut Q) : ∀ (fuel : Nat) (listed : Array Bool) (a : Act) (w : World), wpAny P md ops Q fuel listed a w → wpAnyIn (Fence.wide.inRound l) n P md ops Q fuel listed a w
  | 0, _, _, _, h => h
  | fuel + 1, _, _, _, h => ⟨h.1, fun i hi => wpOpIn_of hnd hq (fun a w => wpAnyIn_of hnd hq fuel _ a w) (h.2 i hi)⟩
def isDefer : Op → Bool
  | .defer _ => true
  | _ => false
theorem region_round {id : Nat} {ops : Array Oper} {a : Act} {w : World} (hm : P.follows .mixedOrders = true) (hnd : ops.toList.all (fun o => !isDefer o.op) = true) (hq : ¬ LetsOut Q)
    (h : wpAny P .any ops Q ops.size (Array.replicate ops.size false) a w.drew) : (Code.region id ops true).wpIn (Fence.wide.inRound l) n P Q a w :=
  wpIn_region_any hm (wpAnyIn_of (fun o ho c hc => by
    have := List.all_eq_true.1 hnd o ho
    rw [hc] at this
    cases this) hq _ _ _ _ h)
/-- append in a round. -/
theorem wpListIn_u8 (w : World) {ops : Array Oper} {rest : List Oper} {o : Oper} {a : Act} (hgd : o.guard = none) (s x : Operand)
    (ho : o.op = .call { callee := .builtin .append, args := #[s, x], argTypes := #[27, 27] })
    (base : Nat) (v : Value) (k : Nat) (l1 : List Int) (hs : a.eval s = v) (hown : w.ownsRow base 5 1 v k (l1.map (Value.int .u8)))
    (A : Option Addr) (m c : Nat) (l2 : List Int) (hx : a.eval x = .slice A m c) (hr : Ri w .u8 A m l2) (hb : k + m ≤ 2000000000) (hbase : base ≤ w.heap.size)
    (h : ∀ G cap w', w'.ownsRow base 5 1 (.slice G (k + m) cap) (k + m) ((l1 ++ l2).map (Value.int .u8)) → w.grownBy w' v.ownBlock → ((Value.slice G (k + m) cap).ownBlock = v.ownBlock ∨ (Value.slice G (k + m) cap).ownBlock = some w.heap.size) → wpListIn (Fence.wide.inRound l) n Tryd.prog ops Q rest (a.put o.dst (.slice G (k + m) cap)) w') : wpListIn (Fence.wide.inRound l) n Tryd.prog ops Q (o :: rest) a w := by
  refine wpListIn_plain hgd fun K hK => ?_
  refine opIn_of_op (fun c hc => by rw [ho] at hc; cases hc) ?_
  obtain ⟨i0, hi, hz0, hz1, hz2⟩ := info_parts info_u8
  refine wp_append_any w s x 27 ho base 5 i0 (.int .u8 0) 1 1 Tryd.underlying27 hi hz0 hz1 hz2 rfl (by decide) v k _ hs hown A m c _ hx hr (Ri.oneCell _ _) (by unfold maxLen; omega) (by omega) hbase ?_
  intro G cap w' h1 h2 h3 _
  rw [← List.map_append] at h1
  exact hK _ _ (h G cap w' h1 h2 h3)
end Go.Proofs.YtbmooemlekckbaaDoor

/- The law of a loop over byterle's runs: its rounds all go on. -/
namespace Go.Proofs.YtbmooemlekckbaaDoor
open Go.RowKit

/-- How a round ends. -/
def roundEnd (B Bn : Nat) (t : TypeId) (c : Array Value) (I : List Int → World → Prop) (next : List Int) (W : World) : Exit → Act → World → Prop
  | .normal, _, W' => KeepsFrom B W W' ∧ I next W' ∧ Blk W' Bn t c
  | _, _, _ => False
theorem roundEnd_lets {B Bn : Nat} {t : TypeId} {c : Array Value} {I : List Int → World → Prop} {next : List Int} {W : World} : ¬ LetsOut (roundEnd B Bn t c I next W) := by
  rintro ⟨a, w, h⟩; exact h
theorem blk_put {W : World} {g k : Nat} {t : TypeId} {c : Array Value} (h : Blk W g t c) (hk : g ≠ k) (o : Obj) : Blk (W.putObj k o) g t c := (World.putObj_heap_other hk).trans h

theorem range_runs {P : Program} {n Bn gf : Nat} {T : TypeId} {lb : Array Value} {g : Operand} {ps : Array Tmp} {assign body : Code} {Q : Exit → Act → World → Prop} {a : Act} {w w0 : World} {c0 : Array Value} (h2 : 2 ≤ n)
    (hg : a.eval g = .func (.func gf) #[] lb) (eg : ∀ args w, (callFunc gf args).run P w = .ok (.enter gf args) w) (lst : List Int) (encs : List Int → Array Value) (hps : ∀ r, (encs r).size = ps.size)
    (hseq : ∀ (l : Nat) (J : List Int → World → Prop) (W1 : World), (∀ rest V, J rest V → Below w0.heap.size w0 V) → (∀ rest V m, J rest V → J rest (V.drewN m)) → (∀ rest V v c, J rest V → Blk V Bn T c → J rest (V.setCell ⟨Bn, 0, none⟩ v)) →
      (∀ rest V c, J rest V → 0 < rest.length → U8 rest → Blk V Bn T c → YieldAt Fence.wide (n - 1 - 1) P l (encs rest) V fun e V' => e = .returned (.bool true) ∧ J (rest.drop (runN rest)) V' ∧ Blk V' Bn T c) →
      Blk W1 Bn T c0 → J lst W1 → CallsIn Fence.wide (n - 1) P gf (#[.func (.yield l) #[] #[]] ++ lb) W1 (RunsOut J))
    (I : List Int → World → Prop) (hIb : ∀ rest V, I rest V → Below w0.heap.size w0 V) (hId : ∀ rest V m, I rest V → I rest (V.drewN m)) (hIs : ∀ rest V v c, I rest V → Blk V Bn T c → I rest (V.setCell ⟨Bn, 0, none⟩ v))
    (hIa : ∀ rest V o, I rest V → w.heap.size ≤ V.heap.size → I rest (V.alloc o)) (hIp : ∀ rest V k o o', I rest V → w.heap.size ≤ k → V.heap[k]? = some o → o.isCells = false → I rest (V.putObj k o'))
    (hB0 : w0.heap.size ≤ w.heap.size) (hbox : Blk w Bn T c0) (h0 : I lst w) (a₁ : List Int → Act)
    (hassign : ∀ (l : Nat) (rest : List Int) (W : World) (K : Act → World → Prop), K (a₁ rest) W →
      assign.wpIn (Fence.wide.inRound l) (n - 1 - 1) P (Exit.then K (fun _ _ _ => False)) { tmps := (ps.zip (encs rest)).foldl (fun t (p, v) => t.setIfInBounds p v) a.tmps, defers := [] } W)
    (hbody : ∀ (l : Nat) (rest : List Int) (W : World) (c : Array Value), I rest W → 0 < rest.length → U8 rest → Blk W Bn T c → body.wpIn (Fence.wide.inRound l) (n - 1 - 1) P (roundEnd w.heap.size Bn T c I (rest.drop (runN rest)) W) (a₁ rest) W)
    (hdone : ∀ (D : Nat) (W : World), w.heap.size ≤ D → I [] W → W.heap[D]? = some (.deferred (some [])) → Q .normal { a with defers := { target := .collected D, args := #[] } :: a.defers } W) :
    (Code.rangeFunc g ps assign body).wpIn Fence.wide n P Q a w := by
  refine wpIn_rangeFunc ?_
  intro fn hfn
  obtain ⟨rec, hrec⟩ : ∃ rec : LoopState → Option Code → Loop, rec = fun st pe => { state := st, pending := pe, fn, tmps := a.tmps, params := ps, assign, body, defers := w.heap.size } := ⟨_, rfl⟩
  obtain ⟨W1, hW1⟩ : ∃ W1, (w.alloc (.deferred (some []))).alloc (.loop (rec .ready none)) = W1 := ⟨_, rfl⟩
  have hbl := hbox.lt
  have hL1 : W1.heap[w.heap.size + 1]? = some (.loop (rec .ready none)) := by
    rw [← hW1]; have := World.alloc_heap_new (w.alloc (.deferred (some []))) (.loop (rec .ready none)); rwa [World.size_alloc] at this
  have hK1 : W1.heap[w.heap.size]? = some (.deferred (some [])) := by
    rw [← hW1]; exact (Below.heap_alloc _ _ _ (by simp)).trans (World.alloc_heap_new w _)
  have hI1 : I lst W1 := by rw [← hW1]; exact hIa _ _ _ (hIa _ _ _ h0 (Nat.le_refl _)) (by simp)
  have hb1 : Blk W1 Bn T c0 := by rw [← hW1]; exact (hbox.alloc _).alloc _
  refine ⟨w.heap.size + 1, [{ target := .collected w.heap.size, args := #[] }], W1, { target := .fn (.func gf) lb, args := #[.func (.yield (w.heap.size + 1)) #[] #[]] }, W1, gf,
    #[.func (.yield (w.heap.size + 1)) #[] #[]] ++ lb, W1, ?_, ?_, fun _ _ => trivial, ?_, fun _ => by omega, ?_⟩
  · rw [← hW1, hrec]; exact run_enterLoop_outer _ _ _ _ _
  · simp only [resolve, hg]
    simp [go_sem]
  · simp [invoke, go_sem, eg]
  · refine (hseq (w.heap.size + 1) (fun rest W => I rest W ∧ W.heap[w.heap.size + 1]? = some (.loop (rec .ready none)) ∧ W.heap[w.heap.size]? = some (.deferred (some []))) W1
      (fun rest V h => hIb rest V h.1) (fun rest V m h => ⟨hId rest V m h.1, h.2.1, h.2.2⟩) ?_ ?_ hb1 ⟨hI1, hL1, hK1⟩).mono ?_
    · rintro rest V v c ⟨hi, hl, hk⟩ hb
      have hblV : Bn < w.heap.size := hbl
      exact ⟨hIs rest V v c hi hb, (Below.heap_setCell V _ v _ (by simp; omega)).trans hl, (Below.heap_setCell V _ v _ (by simp; omega)).trans hk⟩
    · rintro rest V c ⟨hi, hl, hk⟩ hlen hu hb
      have hlt : w.heap.size + 1 < V.heap.size := (Array.getElem?_eq_some_iff.1 hl).1
      have hy := run_yield (P := P) (args := encs rest) hl (by rw [hrec]; exact hps rest)
      rw [hrec] at hy
      refine ⟨fn, _, assign, body, hy, roundIn_of_wpIn hfn (hassign _ rest V _ ⟨_, run_beginRound hl (by rw [hrec]), ?_⟩)⟩
      have hl2 : (V.putObj (w.heap.size + 1) (.loop { rec .ready none with state := .busy })).heap[w.heap.size + 1]? = some (.loop { rec .ready none with state := .busy }) := World.putObj_heap_same hlt
      have hk2 : (V.putObj (w.heap.size + 1) (.loop { rec .ready none with state := .busy })).heap[w.heap.size]? = some (.deferred (some [])) := (World.putObj_heap_other (by omega)).trans hk
      refine wpIn_mono (hbody _ rest _ c (hIp _ _ _ _ _ hi (by omega) hl rfl) hlen hu (blk_put hb (by omega) _)) ?_
      rintro e a3 W3 hp
      cases e with
      | normal =>
        obtain ⟨hk3, hi3, hb3⟩ := hp
        have hl3 := hk3.same _ _ (by omega) hl2 rfl
        have hend := run_endRound (P := P) none hl3
        have hr3 : (.loop { rec .ready none with state := .busy } : Obj).isCells = false := rfl
        refine ⟨_, _, hend, rfl, ⟨hIp _ _ _ _ _ hi3 (by omega) hl3 hr3, ?_, ?_⟩, blk_put hb3 (by omega) _⟩
        · rw [World.putObj_heap_same (Array.getElem?_eq_some_iff.1 hl3).1, hrec]; rfl
        · exact (World.putObj_heap_other (by omega)).trans (hk3.same _ _ (Nat.le_refl _) hk2 rfl)
      | ret => exact hp.elim
      | exit id => exact hp.elim
      | goto t => exact hp.elim
      | panic ch => exact hp.elim
      | outgrown => exact hp.elim
    · rintro e W2 ⟨⟨v, rfl⟩, hi, hl, hk⟩
      have hr3 : (.loop (rec .ready none) : Obj).isCells = false := rfl
      have hpn : (rec .ready none).pending = none := by rw [hrec]
      have hend := run_endLoop (P := P) hl (by rw [hrec]; simp)
      rw [hpn] at hend
      exact ⟨none, _, hend, hdone _ _ (Nat.le_refl _) (hIp _ _ _ _ _ hi (by omega) hl hr3) ((World.putObj_heap_other (by omega)).trans hk)⟩
end Go.Proofs.YtbmooemlekckbaaDoor

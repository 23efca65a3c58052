/- Joined texts: Bridge. Each has its own head line. No condition beyond those that its theorems state. -/
import Derived.Test.YtlmfdmaoakckgaaJ28
set_option linter.unusedVariables false

/- A round of a loop over a function: what holds of an operation outside holds in the round. -/
namespace Go.Proofs.Ytlmfdmaoakckgaa
open Go.RowKit
variable {P : Program} {l n : Nat} {Q : Exit → Act → World → Prop}

theorem opIn_of_op {o : Oper} {a : Act} {w : World} {K : Act → World → Prop} (hnd : ∀ c, o.op ≠ .defer c) (h : o.wp P a w K Q) : o.wpIn (Fence.wide.inRound l) n P a w K Q := by
  refine ⟨fun _ _ => trivial, ?_⟩
  rw [show (Fence.wide.inRound l).round = some l from rfl, Oper.semAt_some l _ _ hnd]
  unfold Oper.wp at h
  generalize (execOp a.eval o).run P w = r at *
  cases r with
  | ok x w' =>
    cases x <;> simp only [Oper.upon, Oper.uponIn] at h ⊢ <;> first
      | exact h
      | exact ⟨fun h => (by cases h), CallsIn.inRound l (callsIn_wide.2 h)⟩
      | exact ⟨fun h => (by cases h), fun c cs _ => (let ⟨v, w2, r, s⟩ := h c cs; ⟨v, w2, r, stepsIn_wide.2 s⟩)⟩
      | exact h.elim
  | halt x w' => cases x <;> simp only [Oper.upon, Oper.uponIn] at h ⊢ <;> first | exact h | exact h.elim
theorem wpOpIn_of {ops : Array Oper} {i : Nat} {a : Act} {w : World} {K K' : Act → World → Prop} (hnd : ∀ o ∈ ops.toList, ∀ c, o.op ≠ .defer c) (hq : ¬ LetsOut Q) (hk : ∀ a w, K a w → K' a w) (h : wpOp P ops Q i K a w) : wpOpIn (Fence.wide.inRound l) n P ops Q i K' a w := by
  unfold wpOp at h
  unfold wpOpIn
  cases ho : ops[i]? with
  | none => rw [ho] at h; exact hk _ _ h
  | some o =>
    rw [ho] at h
    simp only at h ⊢
    split at h
    · rename_i hw
      rw [if_pos hw]
      have h2 := h.resolve_right (fun h3 => hq h3.2)
      exact opIn_of_op (hnd o (by obtain ⟨h3, h4⟩ := Array.getElem?_eq_some_iff.1 ho; rw [← h4]; simp)) (Oper.wp_mono hk h2)
    · rename_i hw
      rw [if_neg hw]
      exact ⟨fun _ _ => trivial, hk _ _ h⟩
theorem wpAnyIn_of {ops : Array Oper} {md : Region.Mode} (hnd : ∀ o ∈ ops.toList, ∀ c, o.op ≠ .defer c) (hq : ¬ LetsOut Q) : ∀ (fuel : Nat) (listed : Array Bool) (a : Act) (w : World), wpAny P md ops Q fuel listed a w → wpAnyIn (Fence.wide.inRound l) n P md ops Q fuel listed a w
  | 0, _, _, _, h => h
  | fuel + 1, _, _, _, h => ⟨h.1, fun i hi => wpOpIn_of hnd hq (fun a w => wpAnyIn_of hnd hq fuel _ a w) (h.2 i hi)⟩
def isDefer : Op → Bool
  | .defer _ => true
  | _ => false
theorem region_round {id : Nat} {ops : Array Oper} {a : Act} {w : World} (hm : P.follows .mixedOrders = true) (hnd : ops.toList.all (fun o => !isDefer o.op) = true) (hq : ¬ LetsOut Q)
    (h : wpAny P .any ops Q ops.size (Array.replicate ops.size false) a w.drew) : (Code.region id ops true).wpIn (Fence.wide.inRound l) n P Q a w :=
  wpIn_region_any hm (wpAnyIn_of (fun o ho c hc => by
    have := List.all_eq_true.1 hnd o ho
    rw [hc] at this
    cases this) hq _ _ _ _ h)
/-- append in a round. -/
theorem wpListIn_u8 (w : World) {ops : Array Oper} {rest : List Oper} {o : Oper} {a : Act} (hgd : o.guard = none) (s x : Operand)
    (ho : o.op = .call { callee := .builtin .append, args := #[s, x], argTypes := #[25, 25] })
    (base : Nat) (v : Value) (k : Nat) (l1 : List Int) (hs : a.eval s = v) (hown : w.ownsRow base 5 1 v k (l1.map (Value.int .u8)))
    (A : Option Addr) (m c : Nat) (l2 : List Int) (hx : a.eval x = .slice A m c) (hr : Ri w .u8 A m l2) (hb : k + m ≤ 2000000000) (hbase : base ≤ w.heap.size)
    (h : ∀ G cap w', w'.ownsRow base 5 1 (.slice G (k + m) cap) (k + m) ((l1 ++ l2).map (Value.int .u8)) → w.grownBy w' v.ownBlock → ((Value.slice G (k + m) cap).ownBlock = v.ownBlock ∨ (Value.slice G (k + m) cap).ownBlock = some w.heap.size) → wpListIn (Fence.wide.inRound l) n Try.prog ops Q rest (a.put o.dst (.slice G (k + m) cap)) w') : wpListIn (Fence.wide.inRound l) n Try.prog ops Q (o :: rest) a w := by
  refine wpListIn_plain hgd fun K hK => ?_
  refine opIn_of_op (fun c hc => by rw [ho] at hc; cases hc) ?_
  obtain ⟨i0, hi, hz0, hz1, hz2⟩ := info_parts info_u8
  refine wp_append_any w s x 25 ho base 5 i0 (.int .u8 0) 1 1 Try.underlying25 hi hz0 hz1 hz2 rfl (by decide) v k _ hs hown A m c _ hx hr (Ri.oneCell _ _) (by unfold maxLen; omega) (by omega) hbase ?_
  intro G cap w' h1 h2 h3 _
  rw [← List.map_append] at h1
  exact hK _ _ (h G cap w' h1 h2 h3)
end Go.Proofs.Ytlmfdmaoakckgaa

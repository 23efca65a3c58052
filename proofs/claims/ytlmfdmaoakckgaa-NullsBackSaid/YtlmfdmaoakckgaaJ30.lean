/- Joined texts: RangeL. Each has its own head line. No condition beyond those that its theorems state. -/
import Derived.Test.YtlmfdmaoakckgaaJ29
set_option linter.unusedVariables false

/- The law of a loop over byterle's runs: its rounds all go on. -/
namespace Go.Proofs.Ytlmfdmaoakckgaa
open Go.RowKit

/-- How a round ends. -/
def roundEnd (B Bn : Nat) (t : TypeId) (c : Array Value) (I : List Int → World → Prop) (next : List Int) (W : World) : Exit → Act → World → Prop
  | .normal, _, W' => KeepsFrom B W W' ∧ I next W' ∧ Blk W' Bn t c
  | _, _, _ => False
theorem roundEnd_lets {B Bn : Nat} {t : TypeId} {c : Array Value} {I : List Int → World → Prop} {next : List Int} {W : World} : ¬ LetsOut (roundEnd B Bn t c I next W) := by
  rintro ⟨a, w, h⟩; exact h
theorem blk_put {W : World} {g k : Nat} {t : TypeId} {c : Array Value} (h : Blk W g t c) (hk : g ≠ k) (o : Obj) : Blk (W.putObj k o) g t c := (World.putObj_heap_other hk).trans h

theorem range_runs {P : Program} {n Bn gf : Nat} {T : TypeId} {lb : Array Value} {g : Operand} {ps : Array Tmp} {assign body : Code} {Q : Exit → Act → World → Prop} {a : Act} {w w0 : World} {c0 : Array Value} (h2 : 2 ≤ n)
    (hg : a.eval g = .func (.func gf) #[] lb) (eg : ∀ args w, (callFunc gf args).run P w = .ok (.enter gf args) w) (lst : List Int) (encs : List Int → Array Value) (hps : ∀ r, (encs r).size = ps.size)
    (hseq : ∀ (l : Nat) (J : List Int → World → Prop) (W1 : World), (∀ rest V, J rest V → Below w0.heap.size w0 V) → (∀ rest V m, J rest V → J rest (V.drewN m)) → (∀ rest V v c, J rest V → Blk V Bn T c → J rest (V.setCell ⟨Bn, 0, none⟩ v)) →
      (∀ rest V c, J rest V → 0 < rest.length → U8 rest → Blk V Bn T c → YieldAt Fence.wide (n - 1 - 1) P l (encs rest) V fun e V' => e = .returned (.bool true) ∧ J (rest.drop (runN rest)) V' ∧ Blk V' Bn T c) →
      Blk W1 Bn T c0 → J lst W1 → CallsIn Fence.wide (n - 1) P gf (#[.func (.yield l) #[] #[]] ++ lb) W1 (RunsOut J))
    (I : List Int → World → Prop) (hIb : ∀ rest V, I rest V → Below w0.heap.size w0 V) (hId : ∀ rest V m, I rest V → I rest (V.drewN m)) (hIs : ∀ rest V v c, I rest V → Blk V Bn T c → I rest (V.setCell ⟨Bn, 0, none⟩ v))
    (hIa : ∀ rest V o, I rest V → w.heap.size ≤ V.heap.size → I rest (V.alloc o)) (hIp : ∀ rest V k o o', I rest V → w.heap.size ≤ k → V.heap[k]? = some o → o.isCells = false → I rest (V.putObj k o'))
    (hB0 : w0.heap.size ≤ w.heap.size) (hbox : Blk w Bn T c0) (h0 : I lst w) (a₁ : List Int → Act)
    (hassign : ∀ (l : Nat) (rest : List Int) (W : World) (K : Act → World → Prop), K (a₁ rest) W →
      assign.wpIn (Fence.wide.inRound l) (n - 1 - 1) P (Exit.then K (fun _ _ _ => False)) { tmps := (ps.zip (encs rest)).foldl (fun t (p, v) => t.setIfInBounds p v) a.tmps, defers := [] } W)
    (hbody : ∀ (l : Nat) (rest : List Int) (W : World) (c : Array Value), I rest W → 0 < rest.length → U8 rest → Blk W Bn T c → body.wpIn (Fence.wide.inRound l) (n - 1 - 1) P (roundEnd w.heap.size Bn T c I (rest.drop (runN rest)) W) (a₁ rest) W)
    (hdone : ∀ (D : Nat) (W : World), w.heap.size ≤ D → I [] W → W.heap[D]? = some (.deferred (some [])) → Q .normal { a with defers := { target := .collected D, args := #[] } :: a.defers } W) :
    (Code.rangeFunc g ps assign body).wpIn Fence.wide n P Q a w := by
  refine wpIn_rangeFunc ?_
  intro fn hfn
  obtain ⟨rec, hrec⟩ : ∃ rec : LoopState → Option Code → Loop, rec = fun st pe => { state := st, pending := pe, fn, tmps := a.tmps, params := ps, assign, body, defers := w.heap.size } := ⟨_, rfl⟩
  obtain ⟨W1, hW1⟩ : ∃ W1, (w.alloc (.deferred (some []))).alloc (.loop (rec .ready none)) = W1 := ⟨_, rfl⟩
  have hbl := hbox.lt
  have hL1 : W1.heap[w.heap.size + 1]? = some (.loop (rec .ready none)) := by
    rw [← hW1]; have := World.alloc_heap_new (w.alloc (.deferred (some []))) (.loop (rec .ready none)); rwa [World.size_alloc] at this
  have hK1 : W1.heap[w.heap.size]? = some (.deferred (some [])) := by
    rw [← hW1]; exact (Below.heap_alloc _ _ _ (by simp)).trans (World.alloc_heap_new w _)
  have hI1 : I lst W1 := by rw [← hW1]; exact hIa _ _ _ (hIa _ _ _ h0 (Nat.le_refl _)) (by simp)
  have hb1 : Blk W1 Bn T c0 := by rw [← hW1]; exact (hbox.alloc _).alloc _
  refine ⟨w.heap.size + 1, [{ target := .collected w.heap.size, args := #[] }], W1, { target := .fn (.func gf) lb, args := #[.func (.yield (w.heap.size + 1)) #[] #[]] }, W1, gf,
    #[.func (.yield (w.heap.size + 1)) #[] #[]] ++ lb, W1, ?_, ?_, fun _ _ => trivial, ?_, fun _ => by omega, ?_⟩
  · rw [← hW1, hrec]; exact run_enterLoop_outer _ _ _ _ _
  · simp only [resolve, hg]
    simp [go_sem]
  · simp [invoke, go_sem, eg]
  · refine (hseq (w.heap.size + 1) (fun rest W => I rest W ∧ W.heap[w.heap.size + 1]? = some (.loop (rec .ready none)) ∧ W.heap[w.heap.size]? = some (.deferred (some []))) W1
      (fun rest V h => hIb rest V h.1) (fun rest V m h => ⟨hId rest V m h.1, h.2.1, h.2.2⟩) ?_ ?_ hb1 ⟨hI1, hL1, hK1⟩).mono ?_
    · rintro rest V v c ⟨hi, hl, hk⟩ hb
      have hblV : Bn < w.heap.size := hbl
      exact ⟨hIs rest V v c hi hb, (Below.heap_setCell V _ v _ (by simp; omega)).trans hl, (Below.heap_setCell V _ v _ (by simp; omega)).trans hk⟩
    · rintro rest V c ⟨hi, hl, hk⟩ hlen hu hb
      have hlt : w.heap.size + 1 < V.heap.size := (Array.getElem?_eq_some_iff.1 hl).1
      have hy := run_yield (P := P) (args := encs rest) hl (by rw [hrec]; exact hps rest)
      rw [hrec] at hy
      refine ⟨fn, _, assign, body, hy, roundIn_of_wpIn hfn (hassign _ rest V _ ⟨_, run_beginRound hl (by rw [hrec]), ?_⟩)⟩
      have hl2 : (V.putObj (w.heap.size + 1) (.loop { rec .ready none with state := .busy })).heap[w.heap.size + 1]? = some (.loop { rec .ready none with state := .busy }) := World.putObj_heap_same hlt
      have hk2 : (V.putObj (w.heap.size + 1) (.loop { rec .ready none with state := .busy })).heap[w.heap.size]? = some (.deferred (some [])) := (World.putObj_heap_other (by omega)).trans hk
      refine wpIn_mono (hbody _ rest _ c (hIp _ _ _ _ _ hi (by omega) hl rfl) hlen hu (blk_put hb (by omega) _)) ?_
      rintro e a3 W3 hp
      cases e with
      | normal =>
        obtain ⟨hk3, hi3, hb3⟩ := hp
        have hl3 := hk3.same _ _ (by omega) hl2 rfl
        have hend := run_endRound (P := P) none hl3
        have hr3 : (.loop { rec .ready none with state := .busy } : Obj).isCells = false := rfl
        refine ⟨_, _, hend, rfl, ⟨hIp _ _ _ _ _ hi3 (by omega) hl3 hr3, ?_, ?_⟩, blk_put hb3 (by omega) _⟩
        · rw [World.putObj_heap_same (Array.getElem?_eq_some_iff.1 hl3).1, hrec]; rfl
        · exact (World.putObj_heap_other (by omega)).trans (hk3.same _ _ (Nat.le_refl _) hk2 rfl)
      | ret => exact hp.elim
      | exit id => exact hp.elim
      | goto t => exact hp.elim
      | panic ch => exact hp.elim
      | outgrown => exact hp.elim
    · rintro e W2 ⟨⟨v, rfl⟩, hi, hl, hk⟩
      have hr3 : (.loop (rec .ready none) : Obj).isCells = false := rfl
      have hpn : (rec .ready none).pending = none := by rw [hrec]
      have hend := run_endLoop (P := P) hl (by rw [hrec]; simp)
      rw [hpn] at hend
      exact ⟨none, _, hend, hdone _ _ (Nat.le_refl _) (hIp _ _ _ _ _ hi (by omega) hl hr3) ((World.putObj_heap_other (by omega)).trans hk)⟩
end Go.Proofs.Ytlmfdmaoakckgaa

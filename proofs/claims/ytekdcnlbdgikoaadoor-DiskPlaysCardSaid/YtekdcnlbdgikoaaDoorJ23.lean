/- Joined texts: DkMv. Each has its own head line. No condition beyond those that its theorems state. -/
import Derived.Test.YtekdcnlbdgikoaaDoorJ22
import Derived.Test.YtekdcnlbdgikoaaDoorJ09
set_option linter.unusedVariables false

/- disk.Move: the walk. -/
namespace Go.Proofs.YtekdcnlbdgikoaaDoor
open Go.RowKit

section
variable (w : World) {ops : Array Oper} {rest : List Oper} {o : Oper} {a : Act} {Q : Exit → Act → World → Prop}
/-- 'f := files[path]', the path there. -/
theorem wpList_look1_file (hg : o.guard = none) (m x : Operand) (hop : o.op = Op.lookup 53 m x false) (b n : Nat) (L : List Fl)
    (hm : a.eval m = .map (some b)) (hown : w.ownsMap Tryd.prog 9 rawE b n (dat L)) (s : ByteArray) (hx : a.eval x = .string s) (hs : s.size ≤ maxLen) (f : Fl) (hf : findF L s = some f)
    (hK : wpList Tryd.prog ops Q rest (a.put o.dst (.agg #[.slice f.A f.n f.c, .int .i64 f.safe])) w) :
    wpList Tryd.prog ops Q (o :: rest) a w := by
  refine wpList_plain hg fun K' hK' => ?_
  obtain ⟨v, ps, hrun, hv⟩ := hown.lookup keyed_s Tryd.underlying53 (zero_file w) (R := rawE) (zd := .held zeroF) (zp := []) rfl (key_of hs)
  rw [dat_atKey, hf] at hv
  unfold rawE at hv
  injection hv with hv
  injection hv with hv _
  injection hv with hv
  subst hv
  unfold Oper.wp
  simp [execOp, hop, hm, hx, hrun, Result.andThen]
  exact hK' _ _ hK
/-- 'moved[path] = now'. -/
theorem wpList_put_str (hg : o.guard = none) (m x v : Operand) (hop : o.op = Op.mapUpdate 61 m x v) (b n : Nat) (D : DataW Value)
    (hm : a.eval m = .map (some b)) (hown : w.ownsMap Tryd.prog 9 rawE b n D) (hn : n < maxLen) (s u : ByteArray) (hx : a.eval x = .string s) (hv : a.eval v = .string u) (hs : s.size ≤ maxLen)
    (hK : ∀ w', w'.ownsMap Tryd.prog 9 rawE b (n + 1) (D.put (keyL s) (.held (.string u))) → w.mapTurned w' b → wpList Tryd.prog ops Q rest (a.put o.dst undef) w') :
    wpList Tryd.prog ops Q (o :: rest) a w :=
  wpList_mapUpdate_in w hg m x v _ hop 9 9 keyed_s Tryd.underlying61 rawE b n D hm hown hn _ _ _ hx hv (key_of hs) _ [] rfl hK
end

/-- What the map of moved paths holds, while some are still to come. -/
def MvD (frm dest : ByteArray) (L : List Fl) (left : Lit → Bool) (D : DataW Value) : Prop :=
  Maps.IsMap D ∧ ∀ s : ByteArray, (∀ z, D.atKey (keyL s) z = if (findF L s).isSome && underB s frm && !left (keyL s) then .held (.string (newp s frm dest)) else z)
theorem MvD.start (frm dest : ByteArray) (L : List Fl) : MvD frm dest L (Maps.has (dat L)) (.map []) := by
  refine ⟨Maps.isMap_empty, fun s z => ?_⟩
  rw [dat_has]
  cases (findF L s).isSome
  · simp [DataW.atKey]
  · simp [DataW.atKey]
theorem MvD.put {frm dest : ByteArray} {L : List Fl} {left : Lit → Bool} {D : DataW Value} (h : MvD frm dest L left D) {f : Fl} (hf : f ∈ L) (hu : underB f.p frm = true) :
    MvD frm dest L (fun z => left z && !z.sameKey (keyL f.p)) (D.put (keyL f.p) (.held (.string (newp f.p frm dest)))) := by
  refine ⟨h.1.put _ _, fun s z => ?_⟩
  by_cases e : s = f.p
  · subst e
    rw [Maps.atKey_put_same h.1 (keyL_lit _)]
    have : (findF L f.p).isSome = true := by unfold findF; rw [List.isSome_find?, List.any_eq_true]; exact ⟨f, hf, by simp⟩
    simp [same_keyL, hu, this]
  · rw [Maps.atKey_put_other (fun k => e (bytes_ext (by injection k))), h.2 s z]
    simp [same_keyL, e]
theorem MvD.pass {frm dest : ByteArray} {L : List Fl} {left : Lit → Bool} {D : DataW Value} (h : MvD frm dest L left D) {f : Fl} (hu : underB f.p frm = false) :
    MvD frm dest L (fun z => left z && !z.sameKey (keyL f.p)) D := by
  refine ⟨h.1, fun s z => ?_⟩
  rw [h.2 s z]
  by_cases e : s = f.p
  · subst e; simp [hu]
  · simp [same_keyL, e]
/-- One that is no longer to come. -/
def gone (left : Lit → Bool) (L : List Fl) (P : ByteArray → Bool) : Bool := L.any fun f => P f.p && !left (keyL f.p)
theorem gone_start (L : List Fl) (P : ByteArray → Bool) : gone (Maps.has (dat L)) L P = false := by
  unfold gone
  rw [List.any_eq_false]
  intro f hf
  have : Maps.has (dat L) (keyL f.p) = true := by
    rw [dat_has]; unfold findF; rw [List.isSome_find?, List.any_eq_true]; exact ⟨f, hf, by simp⟩
  rw [this]; simp
theorem gone_end {left : Lit → Bool} (L : List Fl) (P : ByteArray → Bool) (h : ∀ kl, left kl = false) : gone left L P = L.any fun f => P f.p := by
  unfold gone
  congr 1
  funext f
  rw [h]; simp
theorem gone_step {left : Lit → Bool} {L : List Fl} {P : ByteArray → Bool} {f : Fl} (hf : f ∈ L) : gone (fun z => left z && !z.sameKey (keyL f.p)) L P = (gone left L P || P f.p) := by
  unfold gone
  rw [Bool.eq_iff_iff, Bool.or_eq_true, List.any_eq_true, List.any_eq_true]
  constructor
  · rintro ⟨g, hg, hk⟩
    by_cases e : g.p = f.p
    · right; rw [e] at hk; simp only [Bool.and_eq_true] at hk; exact hk.1
    · left; refine ⟨g, hg, ?_⟩; simpa [same_keyL, e] using hk
  · rintro (⟨g, hg, hk⟩ | h)
    · refine ⟨g, hg, ?_⟩
      simp only [Bool.and_eq_true] at hk
      have : left (keyL g.p) = false := by simpa using hk.2
      simp [hk.1, this]
    · exact ⟨f, hf, by simp [h, same_keyL]⟩
theorem any_mem {L : List Fl} {P : ByteArray → Bool} (h : (L.any fun f => P f.p) = false) : ∀ f ∈ L, P f.p = false := fun f hf => by
  have := List.any_eq_false.1 h f hf
  simpa using this
theorem size_none {w : World} {b n : Nat} {D : DataW Value} (hown : w.ownsMap Tryd.prog 9 rawE b n D) (h : ∀ s : ByteArray, ∀ z, D.atKey (keyL s) z = z) : Maps.size D = 0 := by
  obtain ⟨es, rfl, hk⟩ := hown.keysOf
  cases es with
  | nil => rfl
  | cons p r =>
    obtain ⟨v, hv⟩ := hk p List.mem_cons_self
    obtain ⟨x, _, hx, _⟩ := Go.Maps.keyOf_str Tryd.underlying9 hv
    have h2 := Maps.has_false_of_atKey (h ⟨x.toArray⟩)
    rw [Maps.has_eq, List.any_eq_false] at h2
    exact absurd (h2 p List.mem_cons_self) (by rw [hx]; simp [keyL, Lit.sameKey])
theorem size_some {D : DataW Value} {s : ByteArray} {v : DataW Value} (hm : Maps.IsMap D) (h : ∀ z, D.atKey (keyL s) z = v) : Maps.size D ≠ 0 := by
  have h2 := Maps.has_true_of_atKey h
  obtain ⟨es, rfl⟩ := hm
  rw [Maps.has_eq] at h2
  rw [Maps.size_eq]
  cases es with
  | nil => cases h2
  | cons p r => simp
/-- The map of moved paths is empty just where none is moved. -/
theorem MvD.size {w : World} {b n : Nat} {frm dest : ByteArray} {L : List Fl} {left : Lit → Bool} {D : DataW Value} (h : MvD frm dest L left D) (hown : w.ownsMap Tryd.prog 9 rawE b n D) (hl : ∀ kl, left kl = false) :
    ((Maps.size D : Int) == 0) = !(L.any fun f => underB f.p frm) := by
  cases ha : L.any fun f => underB f.p frm
  · have hno := any_mem (P := fun p => underB p frm) ha
    have : Maps.size D = 0 := size_none hown fun s z => by
      rw [h.2 s z]
      cases hf : findF L s with
      | none => simp
      | some f =>
        have h1 := findF_some hf
        rw [← h1.2, hno f h1.1]; simp
    rw [this]; rfl
  · obtain ⟨f, hf, hu⟩ := List.any_eq_true.1 ha
    have hf2 : (findF L f.p).isSome = true := by unfold findF; rw [List.isSome_find?, List.any_eq_true]; exact ⟨f, hf, by simp⟩
    have := size_some h.1 (s := f.p) (v := .held (.string (newp f.p frm dest))) (fun z => by rw [h.2 f.p z, hf2, hu, hl]; simp)
    simpa using this
/-- What comes out of the map of moved paths. -/
theorem next_moved {frm dest : ByteArray} {L : List Fl} {left : Lit → Bool} {D : DataW Value} (h : MvD frm dest L left D) {x : ByteArray} {c : Value} {kl : Lit} {y : DataW Value × List MemPlace}
    (hk : keyOf Tryd.prog 9 (.string x) = some kl) (hv : rawE (id c) = some y) (hat : ∀ zd, D.atKey kl zd = y.1) : kl = keyL x ∧ x.size ≤ maxLen ∧ c = .string (newp x frm dest) ∧ ∃ f ∈ L, f.p = x ∧ underB x frm = true := by
  obtain ⟨s, e, hsz, rfl⟩ := keyOf_str_inv Tryd.underlying9 hk
  injection e with e
  subst e
  unfold rawE at hv
  injection hv with hv
  subst hv
  have h1 := hat .nil
  rw [h.2] at h1
  cases hf : findF L x with
  | none => rw [hf] at h1; cases h1
  | some f =>
    rw [hf] at h1
    cases hu : underB x frm with
    | false => rw [hu] at h1; cases h1
    | true =>
      have h2 := findF_some hf
      split at h1
      · injection h1 with h1
        exact ⟨rfl, hsz, h1.symm, f, h2.1, h2.2, rfl⟩
      · cases h1
end Go.Proofs.YtekdcnlbdgikoaaDoor

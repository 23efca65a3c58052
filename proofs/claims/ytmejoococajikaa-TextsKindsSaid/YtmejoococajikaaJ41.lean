/- Joined texts: DkV. Each has its own head line. No condition beyond those that its theorems state. -/
import Derived.Maps.OwnSet
import Derived.Maps.RangeWalk
import Derived.Maps.Ext
import Derived.Test.YtmejoococajikaaJ01
set_option linter.unusedVariables false

/- The disk's words: a file; what a map of files reads as; a row of files by rising paths. -/
namespace Go.Proofs.Ytmejoococajikaa
open Go.RowKit

/-- A file: its path, its row, its bytes, how many are safe. -/
structure Fl where
  p : ByteArray
  A : Option Addr
  n : Nat
  c : Nat
  b : List Int
  safe : Nat
def Fl.val (f : Fl) : Value := .agg #[.slice f.A f.n f.c, .int .i64 f.safe]
def keyL (s : ByteArray) : Lit := .string s.data.toList
def Fl.ent (f : Fl) : Lit × DataW Value := (keyL f.p, .held f.val)
def dat (L : List Fl) : DataW Value := .map (L.map Fl.ent)
/-- An element of the map is held as it is. -/
def rawE (v : Value) : Option (DataW Value × List MemPlace) := some (.held v, [])
def findF (L : List Fl) (s : ByteArray) : Option Fl := L.find? fun f => decide (f.p = s)
def delF (L : List Fl) (s : ByteArray) : List Fl := L.filter fun f => !decide (f.p = s)
def befF (s t : ByteArray) : Bool := bytesBefore s.data.toList t.data.toList
def insF (f : Fl) : List Fl → List Fl
  | [] => [f]
  | g :: r => if befF f.p g.p then f :: g :: r else g :: insF f r
def SortF (L : List Fl) : Prop := L.Pairwise fun f g => befF f.p g.p = true

theorem bytes_ext {s t : ByteArray} (h : s.data.toList = t.data.toList) : s = t := by
  cases s; cases t
  simp only [ByteArray.mk.injEq]
  exact Array.toList_inj.1 h
theorem same_keyL (s t : ByteArray) : (keyL s).sameKey (keyL t) = decide (s = t) := by
  show (s.data.toList == t.data.toList) = _
  by_cases h : s = t
  · subst h; simp
  · rw [decide_eq_false h, beq_eq_false_iff_ne]
    exact fun e => h (bytes_ext e)
theorem keyL_lit (s : ByteArray) : WideAt.IsKeyLit (keyL s) := trivial
theorem dat_atKey (L : List Fl) (s : ByteArray) (z : DataW Value) : (dat L).atKey (keyL s) z = match findF L s with | some f => .held f.val | none => z := by
  unfold dat DataW.atKey findF
  dsimp only
  rw [List.find?_map]
  have e : ((fun p : Lit × DataW Value => p.1.sameKey (keyL s)) ∘ Fl.ent) = fun f => decide (f.p = s) := by
    funext f; exact same_keyL _ _
  rw [e]
  cases L.find? fun f => decide (f.p = s) <;> rfl
theorem dat_has (L : List Fl) (s : ByteArray) : Maps.has (dat L) (keyL s) = (findF L s).isSome := by
  unfold dat findF
  rw [Maps.has_eq, List.any_map]
  have e : ((fun p : Lit × DataW Value => p.1.sameKey (keyL s)) ∘ Fl.ent) = fun f => decide (f.p = s) := by
    funext f; exact same_keyL _ _
  rw [e, List.isSome_find?]
theorem dat_size (L : List Fl) : Maps.size (dat L) = L.length := by
  unfold dat; rw [Maps.size_eq, List.length_map]
theorem filt_ent (L : List Fl) (s : ByteArray) : (L.map Fl.ent).filter (fun p => !p.1.sameKey (keyL s)) = (delF L s).map Fl.ent := by
  unfold delF
  rw [List.filter_map]
  have e : ((fun p : Lit × DataW Value => !p.1.sameKey (keyL s)) ∘ Fl.ent) = fun f => !decide (f.p = s) := by
    funext f
    show (!(keyL f.p).sameKey (keyL s)) = _
    rw [same_keyL]
  rw [e]
theorem dat_del (L : List Fl) (s : ByteArray) : (dat L).del (keyL s) = dat (delF L s) := by
  unfold dat DataW.del
  dsimp only
  rw [filt_ent]
theorem insert_ent (f : Fl) (L : List Fl) : DataW.insert f.ent (L.map Fl.ent) = (insF f L).map Fl.ent := by
  induction L with
  | nil => rfl
  | cons g r ih =>
    rw [List.map_cons, DataW.insert, insF]
    have e : f.ent.1.before g.ent.1 = befF f.p g.p := rfl
    rw [e, ih]
    split <;> rfl
theorem dat_put (L : List Fl) (f : Fl) : (dat L).put (keyL f.p) (.held f.val) = dat (insF f (delF L f.p)) := by
  unfold dat DataW.put
  dsimp only
  rw [filt_ent]
  exact congrArg _ (insert_ent f _)

theorem bef_irrefl : ∀ l : List UInt8, bytesBefore l l = false := by
  intro l
  induction l with
  | nil => rfl
  | cons a r ih => simp [bytesBefore, ih]
theorem befF_irrefl (s : ByteArray) : befF s s = false := WideAt.bytes_irrefl _
theorem befF_trans {s t u : ByteArray} (h : befF s t = true) (k : befF t u = true) : befF s u = true := WideShapes.bytes_trans _ _ _ h k
theorem befF_asymm {s t : ByteArray} (h : befF s t = true) : befF t s = false := by
  cases k : befF t s
  · rfl
  · have := befF_trans h k; rw [befF_irrefl] at this; cases this
theorem befF_total {s t : ByteArray} (h : s ≠ t) : befF s t = true ∨ befF t s = true := WideAt.bytes_total _ _ (fun e => h (bytes_ext e))
theorem befF_ne {s t : ByteArray} (h : befF s t = true) : s ≠ t := by rintro rfl; rw [befF_irrefl] at h; cases h
theorem findF_some {L : List Fl} {s : ByteArray} {f : Fl} (h : findF L s = some f) : f ∈ L ∧ f.p = s :=
  by
  unfold findF at h
  have h2 := List.find?_some h
  exact ⟨List.mem_of_find?_eq_some h, by simpa using h2⟩
theorem findF_none {L : List Fl} {s : ByteArray} (h : findF L s = none) : ∀ f ∈ L, f.p ≠ s := fun f hf => by
  have := List.find?_eq_none.1 h f hf
  simpa using this
theorem delF_none {L : List Fl} {s : ByteArray} (h : ∀ f ∈ L, f.p ≠ s) : delF L s = L := by
  unfold delF
  rw [List.filter_eq_self]
  intro f hf
  simp [h f hf]
theorem setF_none {L : List Fl} {g : Fl} (h : ∀ f ∈ L, f.p ≠ g.p) : (L.map fun x => if x.p = g.p then g else x) = L := by
  have : (L.map fun x => if x.p = g.p then g else x) = L.map id := List.map_congr_left fun f hf => by rw [if_neg (h f hf)]; rfl
  rw [this, List.map_id]
/-- A store at a path that is there. -/
theorem put_there {L : List Fl} {g : Fl} (hs : SortF L) (h : ∃ f ∈ L, f.p = g.p) : insF g (delF L g.p) = L.map fun x => if x.p = g.p then g else x := by
  induction L with
  | nil => obtain ⟨f, hf, _⟩ := h; cases hf
  | cons x r ih =>
    obtain ⟨hx, hr⟩ := List.pairwise_cons.1 hs
    by_cases e : x.p = g.p
    · have hno : ∀ f ∈ r, f.p ≠ g.p := fun f hf k => befF_ne (hx f hf) (e.trans k.symm)
      have e1 : delF (x :: r) g.p = r := by
        unfold delF
        rw [List.filter_cons_of_neg (by simp [e])]
        exact delF_none hno
      rw [e1, List.map_cons, if_pos e, setF_none hno]
      cases r with
      | nil => rfl
      | cons y t =>
        have := hx y List.mem_cons_self
        rw [e] at this
        rw [insF, if_pos this]
    · obtain ⟨f, hf, hfp⟩ := h
      have hf' : f ∈ r := by
        rcases List.mem_cons.1 hf with rfl | k
        · exact absurd hfp e
        · exact k
      have e1 : delF (x :: r) g.p = x :: delF r g.p := by
        unfold delF
        rw [List.filter_cons_of_pos (by simp [e])]
      have h1 := hx f hf'
      rw [hfp] at h1
      rw [e1, insF, if_neg (by rw [befF_asymm h1]; simp), ih hr ⟨f, hf', hfp⟩, List.map_cons, if_neg e]
theorem put_new {L : List Fl} {g : Fl} (h : findF L g.p = none) : insF g (delF L g.p) = insF g L := by
  rw [delF_none (findF_none h)]
theorem insF_len (g : Fl) (L : List Fl) : (insF g L).length = L.length + 1 := by
  induction L with
  | nil => rfl
  | cons x r ih => rw [insF]; split <;> simp [ih]
theorem insF_mem {g f : Fl} {L : List Fl} (h : f ∈ insF g L) : f = g ∨ f ∈ L := by
  induction L with
  | nil => rw [insF] at h; simpa using h
  | cons x r ih =>
    rw [insF] at h
    split at h
    · simpa using h
    · rcases List.mem_cons.1 h with rfl | k
      · exact .inr List.mem_cons_self
      · rcases ih k with rfl | k
        · exact .inl rfl
        · exact .inr (List.mem_cons_of_mem _ k)

section
variable {w : World} {b n : Nat}
open Go.Maps Go.WideElems Go.ChangeMaps Go.MapKept
/-- The bound is the map's size. -/
theorem own_tight {H : Type} {P : Program} {k : TypeId} {R : Value → Option (DataW H × List MemPlace)} {D : DataW H} (h : w.ownsMap P k R b n D) : w.ownsMap P k R b (Maps.size D) D := by
  obtain ⟨es, clock, hb, F, hs, rfl⟩ := h
  refine ⟨es, clock, hb, F, ?_, rfl⟩
  rw [Maps.size_eq, length_sorted]; simp
theorem own_sort {P : Program} {k : TypeId} {L : List Fl} (K : Keyed P k) (h : w.ownsMap P k rawE b n (dat L)) : SortF L := by
  obtain ⟨es, he, hp, _⟩ := h.canon K
  unfold dat at he
  injection he with he
  subst he
  exact List.pairwise_map.1 hp
/-- A store at a key that is there, while the map is ranged over. -/
theorem ranges_store {H : Type} {P : Program} {k t e : TypeId} {R : Value → Option (DataW H × List MemPlace)} {D : DataW H} {r cnt : Nat} {left : Lit → Bool} (h : w.ranges P k R b r n D left cnt) (K : Keyed P k) (ht : P.underlying t = some (.map k e)) (hn : n < maxLen)
    {key val : Value} {kl : Lit} {d : DataW H} {ps : List MemPlace} (hkey : keyOf P k key = some kl) (hv : R val = some (d, ps)) (hh : Maps.has D kl = true) :
    ∃ w', (Instr.mapUpdate t (.map (some b)) key val).run P w = .ok () w' ∧ w'.ranges P k R b r n (D.put kl d) left cnt ∧ w.mapTurned w' b := by
  have hne := h.ne
  obtain ⟨es, clock, since, seen, c0, hb, F, hs, rfl, hr, hborn, hcnt, hl1, hl2, hc1, hc2⟩ := h
  obtain ⟨es', clock', hrun, F', hput, _, _, hwho⟩ := Maps.fit_store (R' := R) K ht hb F (Nat.lt_of_le_of_lt hs hn) (fun _ _ _ _ hz => hz) hkey hv
  have hthere : ∃ x ∈ es.toList, x.key = key := by
    rw [Maps.has_eq, List.any_eq_true] at hh
    obtain ⟨p, hp, hpk⟩ := hh
    obtain ⟨x, hx, rfl⟩ := List.mem_map.1 (mem_sorted.1 hp)
    obtain ⟨y, hy⟩ := F.reads x hx
    have e1 := WideAt.sameKey_eq hpk
    rw [rg_of hy] at e1
    exact ⟨x, hx, K.inj (e1 ▸ rd_key hy) hkey⟩
  rcases K.find w hkey es.toList F.keys with ⟨h1, h2⟩ | ⟨j, e0, h1, h2, h3⟩
  · obtain ⟨x, hx, hxk⟩ := hthere
    exact absurd hxk (h2 x hx)
  · have hj : es[j]? = some e0 := by simpa using h2
    have hrun2 : (Instr.mapUpdate t (.map (some b)) key val).run P w = .ok () (setBlock w b (.map (es.modify j (fun e' => { e' with key := key, val := val })) clock)) := by
      simp [Instr.mapUpdate, run_underlying ht, MapKept.run_getObj_map hb, K.check w false hkey, h1, hj, h3, K.stays w hkey, MapKept.run_setObj_map _ hb, Result.andThen, setBlock]
    rw [hrun2] at hrun
    injection hrun with _ hw
    have hob := congrArg (fun x : World => x.heap[b]?) hw
    simp only [heap_setBlock_same hb] at hob
    injection hob with hob
    injection hob with hes hclk
    subst hes hclk
    have hfi : (es.modify j (fun e' => { e' with key := key, val := val })).toList.map (fun x => (x.born, (rg P k R x).1)) = es.toList.map (fun x => (x.born, (rg P k R x).1)) := by
      have hke : (rg P k R { e0 with key := key, val := val }).1 = (rg P k R e0).1 := by
        obtain ⟨y, hy⟩ := F.reads e0 (List.mem_of_getElem? h2)
        have e1 := rd_key hy
        rw [h3, hkey] at e1
        injection e1 with e1
        rw [rg_of hy, rg_of (rd_mk hkey hv), e1]
      apply List.ext_getElem?
      intro i
      rw [List.getElem?_map, List.getElem?_map, Array.toList_modify, List.getElem?_modify]
      by_cases e : j = i
      · subst e
        rw [h2]
        simp [hke]
      · simp [e]
    refine ⟨_, hrun2, ⟨_, clock, since, seen, c0, heap_setBlock_same hb _, F', by simpa using hs, by rw [DataW.put_eq, hput], (heap_setBlock_other hb _ hne).trans hr, ?_, ?_, ?_, ?_, hc1, hc2⟩, ⟨es, clock, _, _, hb, rfl⟩⟩
    · intro x hx
      have hm := List.mem_map_of_mem (f := fun x => (x.born, (rg P k R x).1)) hx
      rw [hfi] at hm
      obtain ⟨y, hy, he⟩ := List.mem_map.1 hm
      have e1 : y.born = x.born := congrArg Prod.fst he
      rw [← e1]; exact hborn y hy
    · rw [← hcnt]
      unfold leftOf
      have hsz : ∀ a : Array MapEntry, (a.filter fun e => !seen.contains e.born).size = ((a.toList.map (fun x => (x.born, (rg P k R x).1))).filter fun q => !seen.contains q.1).length := by
        intro a
        rw [List.filter_map, List.length_map, ← Array.length_toList, Array.toList_filter]
        rfl
      rw [hsz, hsz, hfi]
    · intro x hx
      have hm := List.mem_map_of_mem (f := fun x => (x.born, (rg P k R x).1)) hx
      rw [hfi] at hm
      obtain ⟨y, hy, he⟩ := List.mem_map.1 hm
      have e1 : y.born = x.born := congrArg Prod.fst he
      have e2 : (rg P k R y).1 = (rg P k R x).1 := congrArg Prod.snd he
      rw [← e1, ← e2]; exact hl1 y hy
    · intro kl' hk'
      obtain ⟨y, hy, he⟩ := hl2 kl' hk'
      have hm := List.mem_map_of_mem (f := fun x => (x.born, (rg P k R x).1)) hy
      rw [← hfi] at hm
      obtain ⟨x, hx, hex⟩ := List.mem_map.1 hm
      have e2 : (rg P k R x).1 = (rg P k R y).1 := congrArg Prod.snd hex
      exact ⟨x, hx, e2.trans he⟩
end
end Go.Proofs.Ytmejoococajikaa

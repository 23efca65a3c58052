/- Joined texts: DkMp. Each has its own head line. No condition beyond those that its theorems state. -/
import Derived.Test.YtekdcnlbdgikoaaDoorJ21
set_option linter.unusedVariables false

/- Files under new names: the plain law of a directory that is moved. -/
namespace Go.Proofs.YtekdcnlbdgikoaaDoor
open Go.RowKit

section
theorem app_list (a b : ByteArray) : (a ++ b).data.toList = a.data.toList ++ b.data.toList := by
  rw [ByteArray.data_append, Array.toList_append]
theorem rest_list (p d : ByteArray) : (restB p d).data.toList = Lib.trimPrefix p.data.toList d.data.toList := by
  show (Lib.trimPrefix p.data.toList d.data.toList).toArray.toList = _
  simp
theorem under_eq {p d : ByteArray} (h : underB p d = true) : p = d ++ restB p d := by
  unfold underB at h
  rw [Bool.and_eq_true] at h
  refine bytes_ext ?_
  rw [app_list, rest_list, Lib.trimPrefix, if_pos h.1]
  have h1 := h.1
  unfold Lib.hasPrefix at h1
  exact (List.prefix_iff_eq_append.1 (List.isPrefixOf_iff_prefix.1 h1)).symm
/-- A file's new path. -/
def newp (p frm dest : ByteArray) : ByteArray := dest ++ restB p frm
theorem rest_new (dest r : ByteArray) : restB (dest ++ r) dest = r := by
  refine bytes_ext ?_
  rw [rest_list, app_list, Lib.trimPrefix, if_pos, List.drop_left]
  unfold Lib.hasPrefix
  exact List.isPrefixOf_iff_prefix.2 (List.prefix_append _ _)
theorem under_new {p frm : ByteArray} (dest : ByteArray) (h : underB p frm = true) : underB (newp p frm dest) dest = true := by
  unfold underB at h ⊢
  unfold newp
  rw [rest_new]
  rw [Bool.and_eq_true] at h ⊢
  refine ⟨?_, h.2⟩
  unfold Lib.hasPrefix
  rw [app_list]
  exact List.isPrefixOf_iff_prefix.2 (List.prefix_append _ _)
theorem new_inj {p q frm dest : ByteArray} (hp : underB p frm = true) (hq : underB q frm = true) (h : newp p frm dest = newp q frm dest) : p = q := by
  have h1 : restB p frm = restB q frm := by
    have := congrArg (fun s => restB s dest) h
    simpa only [newp, rest_new] using this
  rw [under_eq hp, under_eq hq, h1]
theorem rest_le (p d : ByteArray) : (restB p d).size ≤ p.size := by
  show (restB p d).data.size ≤ p.data.size
  rw [← Array.length_toList, ← Array.length_toList, rest_list]
  exact Lib.trimPrefix_le _ _
end

theorem mem_ins {g f : Fl} {L : List Fl} : f ∈ insF g L ↔ f = g ∨ f ∈ L := by
  induction L with
  | nil => simp [insF]
  | cons x r ih =>
    rw [insF]
    split
    · simp
    · rw [List.mem_cons, ih, List.mem_cons]
      constructor
      · (rintro (h | h | h) <;> simp [h])
      · (rintro (h | h | h) <;> simp [h])
theorem sort_ins {L : List Fl} {g : Fl} (hs : SortF L) (h : ∀ f ∈ L, f.p ≠ g.p) : SortF (insF g L) := by
  induction L with
  | nil => exact List.pairwise_cons.2 ⟨fun _ h => absurd h List.not_mem_nil, List.Pairwise.nil⟩
  | cons x r ih =>
    obtain ⟨hx, hr⟩ := List.pairwise_cons.1 hs
    rw [insF]
    split
    · rename_i hb
      refine List.pairwise_cons.2 ⟨fun f hf => ?_, hs⟩
      rcases List.mem_cons.1 hf with rfl | hf
      · exact hb
      · exact befF_trans hb (hx f hf)
    · rename_i hb
      refine List.pairwise_cons.2 ⟨fun f hf => ?_, ih hr (fun f hf => h f (List.mem_cons_of_mem _ hf))⟩
      rcases mem_ins.1 hf with rfl | hf
      · rcases befF_total (h x List.mem_cons_self) with k | k
        · exact k
        · exact absurd k (by simpa using hb)
      · exact hx f hf
theorem sort_ext : ∀ {A B : List Fl}, SortF A → SortF B → (∀ f, f ∈ A ↔ f ∈ B) → A = B
  | [], [], _, _, _ => rfl
  | [], b :: B, _, _, h => by have := (h b).2 List.mem_cons_self; cases this
  | a :: A, [], _, _, h => by have := (h a).1 List.mem_cons_self; cases this
  | a :: A, b :: B, ha, hb, h => by
    obtain ⟨ha1, ha2⟩ := List.pairwise_cons.1 ha
    obtain ⟨hb1, hb2⟩ := List.pairwise_cons.1 hb
    have e : a = b := by
      rcases List.mem_cons.1 ((h a).1 List.mem_cons_self) with e | e
      · exact e
      · rcases List.mem_cons.1 ((h b).2 List.mem_cons_self) with e2 | e2
        · exact e2.symm
        · have k1 := hb1 a e
          have k2 := ha1 b e2
          rw [befF_asymm k1] at k2
          cases k2
    subst e
    refine congrArg _ (sort_ext ha2 hb2 fun f => ⟨fun hf => ?_, fun hf => ?_⟩)
    · rcases List.mem_cons.1 ((h f).1 (List.mem_cons_of_mem _ hf)) with rfl | k
      · exact absurd rfl (befF_ne (ha1 f hf))
      · exact k
    · rcases List.mem_cons.1 ((h f).2 (List.mem_cons_of_mem _ hf)) with rfl | k
      · exact absurd rfl (befF_ne (hb1 f hf))
      · exact k
/-- Files by rising paths. -/
def buildF (L : List Fl) : List Fl := L.foldr insF []
theorem mem_build {L : List Fl} {f : Fl} : f ∈ buildF L ↔ f ∈ L := by
  induction L with
  | nil => rfl
  | cons x r ih => show f ∈ insF x (buildF r) ↔ _; rw [mem_ins, ih, List.mem_cons]
theorem sort_build {L : List Fl} (h : L.Pairwise fun f g => f.p ≠ g.p) : SortF (buildF L) := by
  induction L with
  | nil => exact List.Pairwise.nil
  | cons x r ih =>
    obtain ⟨hx, hr⟩ := List.pairwise_cons.1 h
    exact sort_ins (ih hr) fun f hf e => hx f (mem_build.1 hf) e.symm
theorem build_len (L : List Fl) : (buildF L).length = L.length := by
  induction L with
  | nil => rfl
  | cons x r ih => show (insF x (buildF r)).length = _; rw [insF_len, ih, List.length_cons]
theorem build_sorted {L : List Fl} (h : SortF L) : buildF L = L :=
  sort_ext (sort_build (h.imp fun hab => befF_ne hab)) h fun _ => mem_build
def buildM (M : List Mf) : List Mf := M.foldr insM []
theorem abs_build (L : List Fl) : absF (buildF L) = buildM (absF L) := by
  induction L with
  | nil => rfl
  | cons x r ih => show absF (insF x (buildF r)) = insM x.abs (buildM (absF r)); rw [abs_ins, ih]
theorem find_of_mem {L : List Fl} (hs : SortF L) {f : Fl} (hf : f ∈ L) : findF L f.p = some f := by
  cases h : findF L f.p with
  | none => exact absurd rfl (findF_none h f hf)
  | some g =>
    have := findF_some h
    rw [sort_uniq hs this.1 hf this.2]

section
variable (frm dest : ByteArray)
def movF (f : Fl) : Fl := ⟨newp f.p frm dest, f.A, f.n, f.c, f.b, f.safe⟩
def renM (f : Mf) : Mf := if underB f.p frm then ⟨newp f.p frm dest, f.b, f.safe⟩ else f
/-- A file while some are still to be moved. -/
def stF (left : Lit → Bool) (f : Fl) : Fl := if underB f.p frm && !left (keyL f.p) then movF frm dest f else f
def filesAt (left : Lit → Bool) (L : List Fl) : List Fl := buildF (L.map (stF frm dest left))
variable {frm dest : ByteArray} {left : Lit → Bool} {L : List Fl}
theorem st_cases (f : Fl) : (stF frm dest left f = f ∧ (underB f.p frm = false ∨ left (keyL f.p) = true)) ∨ (stF frm dest left f = movF frm dest f ∧ underB f.p frm = true ∧ left (keyL f.p) = false) := by
  unfold stF
  cases h1 : underB f.p frm <;> cases h2 : left (keyL f.p) <;> simp
theorem st_distinct (hs : SortF L) (hno : ∀ f ∈ L, underB f.p dest = false) : (L.map (stF frm dest left)).Pairwise fun f g => f.p ≠ g.p := by
  refine List.pairwise_map.2 (hs.imp_of_mem fun {f g} hf hg hab => ?_)
  have hne := befF_ne hab
  rcases st_cases (frm := frm) (dest := dest) (left := left) f with ⟨e1, _⟩ | ⟨e1, u1, _⟩ <;> rcases st_cases (frm := frm) (dest := dest) (left := left) g with ⟨e2, _⟩ | ⟨e2, u2, _⟩ <;> rw [e1, e2]
  · exact hne
  · intro e
    have h := under_new dest u2
    have e : f.p = newp g.p frm dest := e
    rw [← e, hno f hf] at h
    cases h
  · intro e
    have h := under_new dest u1
    have e : newp f.p frm dest = g.p := e
    rw [e, hno g hg] at h
    cases h
  · exact fun e => hne (new_inj u1 u2 e)
theorem files_sort (hs : SortF L) (hno : ∀ f ∈ L, underB f.p dest = false) : SortF (filesAt frm dest left L) := sort_build (st_distinct hs hno)
theorem files_len : (filesAt frm dest left L).length = L.length := by unfold filesAt; rw [build_len, List.length_map]
theorem files_mem {h : Fl} : h ∈ filesAt frm dest left L ↔ ∃ k ∈ L, stF frm dest left k = h := by unfold filesAt; rw [mem_build, List.mem_map]
theorem files_start (hs : SortF L) (h : ∀ f ∈ L, underB f.p frm = true → left (keyL f.p) = true) : filesAt frm dest left L = L := by
  unfold filesAt
  have e : L.map (stF frm dest left) = L.map id := List.map_congr_left fun f hf => by
    rcases st_cases (frm := frm) (dest := dest) (left := left) f with ⟨e, _⟩ | ⟨_, u, l⟩
    · exact e
    · rw [h f hf u] at l; cases l
  rw [e, List.map_id, build_sorted hs]
theorem files_find (hs : SortF L) (hno : ∀ f ∈ L, underB f.p dest = false) {f : Fl} (hf : f ∈ L) (hl : left (keyL f.p) = true) : findF (filesAt frm dest left L) f.p = some f := by
  refine find_of_mem (files_sort hs hno) (files_mem.2 ⟨f, hf, ?_⟩)
  unfold stF
  rw [hl]; simp
theorem delF_sort {A : List Fl} (h : SortF A) (s : ByteArray) : SortF (delF A s) := h.filter _
theorem mem_del {A : List Fl} {s : ByteArray} {h : Fl} : h ∈ delF A s ↔ h ∈ A ∧ h.p ≠ s := by unfold delF; rw [List.mem_filter]; simp
/-- One file is moved. -/
theorem files_step (hs : SortF L) (hno : ∀ f ∈ L, underB f.p dest = false) {f : Fl} (hf : f ∈ L) (hu : underB f.p frm = true) (hl : left (keyL f.p) = true) :
    insF (movF frm dest f) (delF (delF (filesAt frm dest left L) f.p) (movF frm dest f).p) = filesAt frm dest (fun z => left z && !z.sameKey (keyL f.p)) L := by
  have hA := files_sort (frm := frm) (left := left) hs hno
  refine sort_ext (sort_ins (delF_sort (delF_sort hA _) _) fun h hh => (mem_del.1 hh).2) (files_sort hs hno) fun h => ?_
  rw [mem_ins, mem_del, mem_del, files_mem, files_mem]
  have hf0 : stF frm dest left f = f := by unfold stF; rw [hl]; simp
  have hf1 : stF frm dest (fun z => left z && !z.sameKey (keyL f.p)) f = movF frm dest f := by
    unfold stF
    simp [same_keyL, hu]
  have hk : ∀ k ∈ L, k.p ≠ f.p → stF frm dest (fun z => left z && !z.sameKey (keyL f.p)) k = stF frm dest left k := fun k _ hne => by
    unfold stF
    simp [same_keyL, hne]
  constructor
  · rintro (rfl | ⟨⟨⟨k, hkL, rfl⟩, h1⟩, _⟩)
    · exact ⟨f, hf, hf1⟩
    · refine ⟨k, hkL, hk k hkL fun e => ?_⟩
      obtain rfl := sort_uniq hs hkL hf e
      exact h1 (by rw [hf0])
  · rintro ⟨k, hkL, rfl⟩
    by_cases e : k.p = f.p
    · obtain rfl := sort_uniq hs hkL hf e
      exact .inl hf1
    · rw [hk k hkL e]
      refine .inr ⟨⟨⟨k, hkL, rfl⟩, ?_⟩, ?_⟩
      · rcases st_cases (frm := frm) (dest := dest) (left := left) k with ⟨e1, _⟩ | ⟨e1, u1, _⟩ <;> rw [e1]
        · exact e
        · intro e2
          have h := under_new dest u1
          have e2 : newp k.p frm dest = f.p := e2
          rw [e2, hno f hf] at h
          cases h
      · rcases st_cases (frm := frm) (dest := dest) (left := left) k with ⟨e1, _⟩ | ⟨e1, u1, _⟩ <;> rw [e1]
        · intro e2
          have h := under_new dest hu
          have e2 : k.p = newp f.p frm dest := e2
          rw [← e2, hno k hkL] at h
          cases h
        · exact fun e2 => e (new_inj u1 hu e2)
theorem files_end (h : ∀ kl, left kl = false) : absF (filesAt frm dest left L) = buildM ((absF L).map (renM frm dest)) := by
  unfold filesAt
  rw [abs_build]
  congr 1
  unfold absF
  rw [List.map_map, List.map_map]
  refine List.map_congr_left fun f _ => ?_
  show Fl.abs (stF frm dest left f) = renM frm dest f.abs
  unfold stF renM
  rw [h]
  show Fl.abs (if (underB f.p frm && true) = true then _ else _) = if underB f.p frm = true then _ else _
  rw [Bool.and_true]
  split <;> rfl
end

/-- What Move answers, and what is there then. -/
def moveM (lf : Int) (M : List Mf) (frm dest : ByteArray) : Int × List Mf :=
  if lf = 0 then (14, M) else if pathD dest = false then (13, M)
  else if (M.any fun f => underB f.p frm) = false then (11, M) else if (M.any fun f => underB f.p dest) = true then (12, M)
  else if ((underB dest frm && !(restB dest frm).toList.isEmpty) || !(M.all fun f => !underB f.p frm || pathD (newp f.p frm dest))) = true then (13, M)
  else (0, buildM (M.map (renM frm dest)))
end Go.Proofs.YtekdcnlbdgikoaaDoor

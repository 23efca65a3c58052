/- Joined texts: DkL. Each has its own head line. No condition beyond those that its theorems state. -/
import Derived.Shelf.SlicesE.DeleteFunc
import Derived.LoopN
import Derived.Test.YtekdcnlbdgikoaaDoorJ21
import Derived.Test.YtekdcnlbdgikoaaDoorJ09
import Derived.Test.YtekdcnlbdgikoaaDoorIter
set_option linter.unusedVariables false

/- disk.List. -/
namespace Go.Proofs.YtekdcnlbdgikoaaDoor
open Go.RowKit Go.Lib Go.Sort

/-- A path is below another one. -/
def belowB (p d : ByteArray) : Bool := underB p d && !(restB p d).toList.isEmpty
def listM (M : List Mf) (dir : ByteArray) : List ByteArray := if dir.toList.isEmpty then M.map Mf.p else (M.map Mf.p).filter fun p => belowB p dir

/-- The closure, in whatever world holds the directory's name. -/
theorem listF_any (dir x : ByteArray) (D : Nat) (W : World) (hc : W.cell? ⟨D, 0, none⟩ = some (.string dir)) :
    FnGives Tryd.prog 34 #[.pointer (some ⟨D, 0, none⟩)] #[.string x] (.bool (!belowB x dir)) W := by
  show Calls Tryd.prog 34 #[.string x, .pointer (some ⟨D, 0, none⟩)] W _
  have hB : belowB x dir = (underB x dir && !(restB x dir).toList.isEmpty) := rfl
  generalize belowB x dir = bb at hB ⊢
  have HU := Lib.hid (under_any W x dir)
  generalize underB x dir = u at hB HU
  generalize restB x dir = r at hB HU
  obtain ⟨t, ht⟩ : ∃ t, r.toList.isEmpty = t := ⟨_, rfl⟩
  rw [ht] at hB
  subst hB
  go_enter Tryd.func34, Tryd.ntmps34
  go_wp2_with fail
  refine HU.out.mono ?_; rintro e w' ⟨rfl, q, rfl⟩
  cases u
  · go_wp2_with fail
    go_ret
    exact ⟨rfl, _, rfl⟩
  · cases t
    · go_wp2_with fail
      go_ret
      exact ⟨rfl, _, rfl⟩
    · go_wp2_with fail
      go_ret
      exact ⟨rfl, _, rfl⟩
theorem listF_at (dir : ByteArray) (D : Nat) (w : World) (hD : D < w.heap.size) (hc : w.cell? ⟨D, 0, none⟩ = some (.string dir)) :
    PredAt Tryd.prog 34 #[.pointer (some ⟨D, 0, none⟩)] encStr (fun x => !belowB ⟨x.toArray⟩ dir) w :=
  fun W x hb => listF_any dir ⟨x.toArray⟩ D W ((hb.cell (p := ⟨D, 0, none⟩) hD).trans hc)
theorem listF_over (dir : ByteArray) (D blk off size : Nat) (w : World) (hD : D < w.heap.size) (hne : D ≠ blk) (hc : w.cell? ⟨D, 0, none⟩ = some (.string dir)) :
    PredOver Tryd.prog 34 #[.pointer (some ⟨D, 0, none⟩)] encStr (fun x => !belowB ⟨x.toArray⟩ dir) blk off size w :=
  fun n os dk x _ => listF_any dir ⟨x.toArray⟩ D _ (by
    unfold sortWorld
    rw [cell?_grow _ _ _ (by show D < (putRow _ _ _ _ _).heap.size; rw [size_putRow]; exact hD), cell?_putRow_other _ _ blk off _ _ (Or.inl hne)]
    exact hc)

theorem keys_of (L : List Fl) : Go.strKeys (dat L) = L.map fun f => f.p.data.toList := by
  show (L.map Fl.ent).map _ = _
  rw [List.map_map]
  rfl
/-- The keys of the map, sorted. -/
theorem sorted_keys {L : List Fl} (h : SortF L) {ss : List (List UInt8)} (hp : ss.Perm (strKeys (dat L))) : (ss.mergeSort (fun x y => decide (x ≤ y))).map encStr = (L.map Fl.p).map Value.string := by
  rw [keys_of] at hp
  have e : (L.map fun f => f.p.data.toList) = (L.map Fl.p).map fun s => s.data.toList := by rw [List.map_map]; rfl
  rw [sort_of_rising hp (List.pairwise_map.2 h), e, encStr_map]
theorem below_putRow {α : Type} [Inhabited α] {enc : α → Value} {B blk : Nat} {a w : World} (h : Below B a w) (hb : B ≤ blk) (q off : Nat) (d : Array α) : Below B a (putRow enc (Sort.ahead w q) blk off d) :=
  ⟨h.os, h.tape, h.output, by rw [size_putRow]; exact h.size, fun k hk => by
    have e : (putRow enc (Sort.ahead w q) blk off d).heap[k]? = w.heap[k]? := by
      simp only [putRow, mapBlock, Array.getElem?_modify]
      rw [if_neg (by omega)]
      rfl
    exact e.trans (h.block k hk)⟩
set_option maxHeartbeats 1000000 in
theorem indexF_nil (w : World) (f : Value) : Calls Tryd.prog 58 #[.slice none 0 0, f] w fun e w' => e = .returned (.int .i64 (-1)) ∧ w' = w := by
  go_enter Tryd.func58, Tryd.ntmps58
  go_wp2_with fail
  refine wp_loop_rounds 1 ?_
  rw [rounds_succ]
  go_wp2_with fail
  go_ret
  exact ⟨rfl, rfl⟩
set_option maxHeartbeats 1000000 in
theorem deleteF_nil (w : World) (f : Value) : Calls Tryd.prog 33 #[.slice none 0 0, f] w fun e w' => e = .returned (.slice none 0 0) ∧ w' = w := by
  go_enter Tryd.func33, Tryd.ntmps33
  go_wp2_with fail
  refine (indexF_nil _ _).mono ?_; rintro e w' ⟨rfl, rfl⟩
  go_wp2_with fail
  go_ret
  exact ⟨rfl, rfl⟩
theorem bytes_back (s : ByteArray) : (⟨s.data.toList.toArray⟩ : ByteArray) = s := by rw [Array.toArray_toList]
theorem kept_map (l : List ByteArray) (dir : ByteArray) : ((l.map fun s => s.data.toList).filter fun x => !(!belowB ⟨x.toArray⟩ dir)).map encStr = (l.filter fun p => belowB p dir).map Value.string := by
  rw [List.filter_map, List.map_map]
  have e : ((fun x : List UInt8 => !(!belowB ⟨x.toArray⟩ dir)) ∘ fun s : ByteArray => s.data.toList) = fun p => belowB p dir := by
    funext s
    show (!(!belowB ⟨s.data.toList.toArray⟩ dir)) = _
    rw [bytes_back, Bool.not_not]
  rw [e]
  refine List.map_congr_left fun s _ => ?_
  show Value.string ⟨s.data.toList.toArray⟩ = Value.string s
  rw [bytes_back]
theorem kept_len (l : List ByteArray) (dir : ByteArray) : ((l.map fun s => s.data.toList).filter fun x => !(!belowB ⟨x.toArray⟩ dir)).length = (l.filter fun p => belowB p dir).length := by
  have := congrArg List.length (kept_map l dir)
  simpa only [List.length_map] using this
/-- DeleteFunc at a row of the call's own. -/
theorem deleteF_any (w : World) (dir : ByteArray) (D g cap n : Nat) (l : List ByteArray) (t : TypeId) (base : Nat) (hown : w.ownsRow base t 1 (.slice (some ⟨g, 0, none⟩) n cap) n (l.map Value.string)) (hD : D < w.heap.size) (hne : D ≠ g) (hc : w.cell? ⟨D, 0, none⟩ = some (.string dir)) :
    Calls Tryd.prog 33 #[.slice (some ⟨g, 0, none⟩) n cap, .func (.func 34) #[] #[.pointer (some ⟨D, 0, none⟩)]] w fun e w' =>
      ∃ m, e = .returned (.slice (some ⟨g, 0, none⟩) m cap) ∧ Rs w' (some ⟨g, 0, none⟩) m (l.filter fun p => belowB p dir) ∧ m ≤ cap ∧ ∀ B a, Below B a w → B ≤ g → Below B a w' := by
  have hlen : n = l.length := by have := hown.1; simp at this; omega
  have hcap := own_cap hown
  obtain ⟨d, hd⟩ : ∃ d : Array (List UInt8), d = (l.map fun s => s.data.toList).toArray := ⟨_, rfl⟩
  have hds : d.size = n := by rw [hd]; simp [hlen]
  have hH : Holds encStr w g 0 d := fun j hj => by
    refine ⟨?_, hown.frozenAt (0 + j)⟩
    rw [Nat.zero_add, hown.cellAt j (by omega)]
    have hj' : j < l.length := by omega
    rw [List.getElem?_map, List.getElem?_eq_getElem hj', getElem!_pos d j hj]
    subst hd
    simp
  have hcon := AnyE.slices_DeleteFunc Tryd.delF33 encStr (fun _ => rfl) (fun x => !belowB ⟨x.toArray⟩ dir) 34 #[.pointer (some ⟨D, 0, none⟩)] (enters_of Tryd.func34 (by kernel_rfl) rfl) [] (fun w => Tryd.zeroValue9 w) g 0 cap d w
    (listF_at dir D w hD hc) (listF_over dir D g 0 d.size w hD hne hc) hH (by omega) (by omega)
  rw [hds] at hcon
  refine Calls.mono hcon ?_
  rintro e w' ⟨rfl, q, rfl⟩
  have hdl : d.toList = l.map fun s => s.data.toList := by rw [hd]
  rw [hdl]
  have hkl := kept_len l dir
  have hle : (l.filter fun p => belowB p dir).length ≤ n := by rw [hlen]; exact List.length_filter_le _ _
  refine ⟨_, rfl, ?_, by omega, fun B a hb hB => below_putRow hb hB _ _ _⟩
  obtain ⟨K, hK⟩ : ∃ K : List (List UInt8), K = ((l.map fun s => s.data.toList).filter fun x => !(!belowB ⟨x.toArray⟩ dir)) := ⟨_, rfl⟩
  have hKm : K.map encStr = (l.filter fun p => belowB p dir).map Value.string := by rw [hK]; exact kept_map l dir
  rw [← hK] at hkl ⊢
  have hz : ((K ++ List.replicate (n - K.length) []).toArray).size = d.size := by simp; omega
  have hh := holds_putRow encStr (Sort.ahead w q) g 0 d ((K ++ List.replicate (n - K.length) []).toArray) (holds_ahead encStr w q g 0 d hH) hz
  have hgl : g < w.heap.size := (hown.lt g rfl).2
  refine ⟨by rw [List.length_map, hkl]; omega, fun _ => ⟨g, 0, rfl, by rw [size_putRow]; exact hgl, fun j u hu => ?_⟩⟩
  rw [← hKm] at hu
  have hj : j < K.length := by
    rcases Nat.lt_or_ge j K.length with h | h
    · exact h
    · rw [List.getElem?_eq_none (by simpa using h)] at hu; cases hu
  rw [(hh j (by simp; omega)).1]
  rw [List.getElem?_map, List.getElem?_eq_getElem hj] at hu
  injection hu with hu
  rw [← hu, getElem!_pos _ j (by simp; omega)]
  simp [List.getElem_append_left hj]
/-- What List hands back. -/
def StrsOut (w : World) (l : List ByteArray) (e : Ending) (w' : World) : Prop := ∃ G n c, e = .returned (.slice G n c) ∧ Rs w' G n l ∧ n ≤ c ∧ c ≤ maxLen ∧ Below w.heap.size w w'
set_option maxRecDepth 100000 in
set_option maxHeartbeats 2000000 in
theorem List_any (w : World) (d B : Nat) (q lf : Int) (M : List Mf) (h : Da w d B q lf M) (dir : ByteArray) (hlen : M.length < 1000000) :
    Calls Tryd.prog 16 #[.pointer (some ⟨d, 0, none⟩), .string dir] w (StrsOut w (listM M dir)) := by
  obtain ⟨L, rfl, hk⟩ := h
  rw [abs_len] at hlen
  have hd1 := hk.alloc (.cells #[.string dir] 9)
  have HS := Lib.hid hk.sort
  have c2 := hd1.c2
  have hk1 := callsIn_wide.1 (Tryd.maps_Keys_32 (some B) (w.alloc (.cells #[.string dir] 9)))
  have hs1 := callsIn_wide.1 (Tryd.slices_Sorted_keys_31_32 B L.length (dat L) rawE (w.alloc (.cells #[.string dir] 9)) hd1.own (by rw [dat_size]; unfold maxLen; omega) (by rw [dat_size]; omega))
  have hz1 : (w.alloc (.cells #[.string dir] 9)).heap.size = w.heap.size + 1 := by simp
  rw [hz1] at hs1
  have HK := Lib.hid hk1; have HSO := Lib.hid hs1
  have HLM : Hid (listM (absF L) dir = if dir.toList.isEmpty then L.map Fl.p else (L.map Fl.p).filter fun p => belowB p dir) := by
    unfold listM absF
    rw [List.map_map]
    exact Lib.hid rfl
  clear hk hd1 hk1 hs1 hz1
  obtain ⟨bE, hE⟩ : ∃ bE, dir.toList.isEmpty = bE := ⟨_, rfl⟩
  have HE := Lib.hid hE
  go_enter Tryd.func16, Tryd.ntmps16
  go_wp2_with fail
  refine HK.out.mono ?_; rintro e w2 ⟨rfl, rfl⟩
  go_wp2_with fail
  refine HSO.out.mono ?_; rintro e w3 ⟨v, ss, rfl, hp, hrow, hnil, hb3⟩
  rw [sorted_keys HS.out hp] at hrow
  have hb0 := on ((Below.refl w.heap.size w).alloc (Nat.le_refl _) (.cells #[.string dir] 9)) (on ((Below.refl _ _).alloc (Nat.le_refl _) (.cells #[.map (some B)] 53)) hb3)
  have HB := Lib.hid hb0
  have HROW := Lib.hid hrow
  have HDIR : Hid (w3.cell? ⟨w.heap.size, 0, none⟩ = some (.string dir)) := Lib.hid (by
    refine (hb3.cell (p := ⟨w.heap.size, 0, none⟩) (by simp; omega)).trans ?_
    rw [World.cell?_alloc_lt _ _ _ (by simp), cell_of_blk (IdiomRange_new w _)]; rfl)
  have hdl : w.heap.size < w3.heap.size := World.block_lt_of_cell? _ _ HDIR.out
  have q0 := HDIR.out
  have hbz : w.heap.size + 2 ≤ (((w.alloc (.cells #[.string dir] 9)).alloc (.cells #[.map (some B)] 53)).heap.size) := by simp
  clear hp hb3 hb0
  cases bE
  · rcases hrow.2 with ⟨rfl, h0⟩ | ⟨g, cap, cur, rfl, hgb, _⟩
    · have hL0 : L.map Fl.p = [] := List.eq_nil_of_length_eq_zero (by have := hrow.1; rw [List.length_map, Nat.mul_one, h0] at this; exact this)
      have HL0 := Lib.hid hL0
      clear hrow hL0 hnil
      go_wp2_with fail
      refine (deleteF_nil _ _).mono ?_; rintro e w4 ⟨rfl, rfl⟩
      go_wp2_with fail
      go_ret
      refine ⟨none, 0, 0, rfl, ?_, Nat.le_refl _, Nat.zero_le _, HB.out⟩
      rw [HLM.out, if_neg (by rw [HE.out]; simp), HL0.out]
      exact Rs.nil _ _
    · have hcap := own_cap hrow
      have hwg : w.heap.size + 2 ≤ g := Nat.le_trans hbz hgb
      have hwne : w.heap.size ≠ g := by omega
      have hwle : w.heap.size ≤ g := by omega
      clear hrow hnil
      go_wp2_with fail
      refine (deleteF_any w3 dir w.heap.size g cap _ _ _ _ HROW.out hdl hwne HDIR.out).mono ?_; rintro e w4 ⟨m, rfl, hrs, hmc, hbel⟩
      have HRS := Lib.hid hrs
      have HB4 := Lib.hid (hbel _ _ HB.out hwle)
      clear hrs hbel
      go_wp2_with fail
      go_ret
      refine ⟨_, m, cap, rfl, ?_, hmc, by unfold maxLen; exact hcap.2, HB4.out⟩
      rw [HLM.out, if_neg (by rw [HE.out]; simp)]
      exact HRS.out
  · obtain ⟨G, c, rfl⟩ := own_form hrow
    have hcap := own_cap HROW.out
    clear hrow
    go_wp2_with fail
    go_ret
    refine ⟨G, _, c, rfl, ?_, hcap.1, by unfold maxLen; exact hcap.2, HB.out⟩
    rw [HLM.out, if_pos HE.out]
    exact Rs.of_own HROW.out
end Go.Proofs.YtekdcnlbdgikoaaDoor

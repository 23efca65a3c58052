/- Joined texts: DkM, DkS. Each has its own head line. No condition beyond those that its theorems state. -/
import Derived.Deep.RegionHeld3
import Derived.Test.YtekdcnlbdgikoaaDoorJ07
set_option linter.unusedVariables false

/- The disk as the laws see it: files by rising paths, without their places. -/
namespace Go.Proofs.YtekdcnlbdgikoaaDoor
open Go.RowKit

/-- A file: its path, its bytes, how many are safe. -/
structure Mf where
  p : ByteArray
  b : List Int
  safe : Nat
def Fl.abs (f : Fl) : Mf := ⟨f.p, f.b, f.safe⟩
def absF (L : List Fl) : List Mf := L.map Fl.abs
def findM (M : List Mf) (s : ByteArray) : Option Mf := M.find? fun f => decide (f.p = s)
def insM (f : Mf) : List Mf → List Mf
  | [] => [f]
  | g :: r => if befF f.p g.p then f :: g :: r else g :: insM f r
def setM (M : List Mf) (g : Mf) : List Mf := M.map fun x => if x.p = g.p then g else x
def usedM (M : List Mf) : Nat := (M.map fun f => f.b.length).sum
def SortM (M : List Mf) : Prop := M.Pairwise fun f g => befF f.p g.p = true
theorem abs_find (L : List Fl) (s : ByteArray) : findM (absF L) s = (findF L s).map Fl.abs := by
  unfold findM absF findF
  rw [List.find?_map]
  rfl
theorem abs_ins (f : Fl) (L : List Fl) : absF (insF f L) = insM f.abs (absF L) := by
  induction L with
  | nil => rfl
  | cons g r ih =>
    show absF (if befF f.p g.p then f :: g :: r else g :: insF f r) = if befF f.p g.p then f.abs :: g.abs :: absF r else g.abs :: insM f.abs (absF r)
    split
    · rfl
    · rw [← ih]; rfl
theorem abs_set (L : List Fl) (g : Fl) : absF (L.map fun x => if x.p = g.p then g else x) = setM (absF L) g.abs := by
  unfold absF setM
  rw [List.map_map, List.map_map]
  refine List.map_congr_left fun x _ => ?_
  show Fl.abs (if x.p = g.p then g else x) = if x.p = g.p then g.abs else x.abs
  split <;> rfl
theorem abs_len (L : List Fl) : (absF L).length = L.length := List.length_map _
theorem abs_sort {L : List Fl} (h : SortF L) : SortM (absF L) := List.pairwise_map.2 h
theorem abs_used {w : World} {L : List Fl} (h : ∀ f ∈ L, FlOk w f) : usedF L = usedM (absF L) := by
  unfold usedF usedM absF
  rw [List.map_map]
  congr 1
  exact List.map_congr_left fun f hf => (h f hf).1.len.symm

/-- A disk, without its files' places. -/
def Da (w : World) (d B : Nat) (q lf : Int) (M : List Mf) : Prop := ∃ L, absF L = M ∧ Dk w d B q lf L
def DaOut (w : World) (d B : Nat) (q lf : Int) (M : List Mf) (v : Value) (e : Ending) (w' : World) : Prop := e = .returned v ∧ Da w' d B q lf M ∧ Turn d B w w'
section
variable {w w' : World} {d B : Nat} {q lf : Int} {M : List Mf}
theorem Da.below (h : Da w d B q lf M) (hb : Below w.heap.size w w') : Da w' d B q lf M := by
  obtain ⟨L, e, k⟩ := h; exact ⟨L, e, k.below hb⟩
theorem Da.far (h : Da w d B q lf M) {A : Option Addr} {n : Nat} {l : List Int} (hr : Ri w .u8 A n l) : Far d B A n := by
  obtain ⟨L, _, k⟩ := h; exact k.far hr
theorem Da.sort (h : Da w d B q lf M) : SortM M := by
  obtain ⟨L, rfl, k⟩ := h; exact abs_sort k.sort
end

def createM (lf : Int) (M : List Mf) (p : ByteArray) : Int × List Mf :=
  if lf = 0 then (14, M) else if pathD p = false then (13, M) else if (findM M p).isSome = true then (12, M) else if 400 ≤ M.length then (3, M) else (0, insM ⟨p, [], 0⟩ M)
theorem create_abs (lf : Int) (L : List Fl) (p : ByteArray) : createM lf (absF L) p = ((createF lf L p).1, absF (createF lf L p).2) := by
  unfold createM createF
  rw [abs_find, Option.isSome_map, abs_len]
  repeat' split
  all_goals first
    | rfl
    | (rw [abs_ins]; rfl)
theorem CreateM_any (w : World) (d B : Nat) (q lf : Int) (M : List Mf) (h : Da w d B q lf M) (hl : -9223372036854775808 ≤ lf ∧ lf < 9223372036854775808) (hd0 : d ≠ 0) (hB0 : B ≠ 0) (p : ByteArray) (hp : p.size ≤ maxLen) (m : Int) (hm : w.cell? ⟨0, 0, none⟩ = some (.int .i64 m)) (er : Int) (M' : List Mf) (hc : createM lf M p = (er, M')) :
    Calls Tryd.prog 10 #[.pointer (some ⟨d, 0, none⟩), .string p] w (DaOut w d B q (burnL lf) M' (.int .i64 er)) := by
  obtain ⟨L, rfl, hk⟩ := h
  rw [create_abs] at hc
  injection hc with h1 h2
  refine (Create_any w d B q lf L hk hl hd0 hB0 p hp m hm er (createF lf L p).2 (Prod.ext h1 rfl)).mono ?_
  rintro e w' ⟨rfl, hd, ht⟩
  exact ⟨rfl, ⟨_, h2, hd⟩, ht⟩
end Go.Proofs.YtekdcnlbdgikoaaDoor

/- disk.Sync. -/
namespace Go.Proofs.YtekdcnlbdgikoaaDoor
open Go.RowKit

def syncM (lf : Int) (M : List Mf) (p : ByteArray) : Int × List Mf :=
  if lf = 0 then (14, M) else match findM M p with
    | none => (11, M)
    | some f => (0, setM M ⟨p, f.b, f.b.length⟩)
/-- A store at a path that is there. -/
theorem Dk.put {w w' : World} {d B : Nat} {q lf : Int} {L : List Fl} {m : Nat} (h : Dk w d B q lf L) (ht : w.mapTurned w' B) {g : Fl} (hf : ∃ f ∈ L, f.p = g.p) (ho : w'.ownsMap Tryd.prog 9 rawE B m (dat (insF g (delF L g.p)))) (hg : FlOk w g) :
    Da w' d B q lf (setM (absF L) g.abs) := by
  rw [put_there h.sort hf] at ho
  refine ⟨_, abs_set L g, h.map ht ho fun f hf2 => ?_⟩
  obtain ⟨x, hx, rfl⟩ := List.mem_map.1 hf2
  split
  · exact hg
  · exact h.row x hx
theorem file_at {L : List Fl} {p : ByteArray} {f : Fl} (h : findF L p = some f) : fileAt L p = .agg #[.slice f.A f.n f.c, .int .i64 f.safe] := by
  unfold fileAt; rw [h]; rfl
theorem file_no {L : List Fl} {p : ByteArray} (h : findF L p = none) : fileAt L p = .agg #[.slice none 0 0, .int .i64 0] := by
  unfold fileAt; rw [h]; rfl

set_option maxRecDepth 100000 in
set_option maxHeartbeats 1000000 in
theorem Sync_any (w : World) (d B : Nat) (q lf : Int) (M : List Mf) (h : Da w d B q lf M) (hl : -9223372036854775808 ≤ lf ∧ lf < 9223372036854775808) (p : ByteArray) (hp : p.size ≤ maxLen) (hlen : M.length < 1000000) (er : Int) (M' : List Mf) (hc : syncM lf M p = (er, M')) :
    Calls Tryd.prog 12 #[.pointer (some ⟨d, 0, none⟩), .string p] w (DaOut w d B q (burnL lf) M' (.int .i64 er)) := by
  obtain ⟨L, rfl, hk⟩ := h
  rw [abs_len] at hlen
  have HD := Lib.hid hk
  unfold syncM at hc
  clear hk
  by_cases h0 : lf = 0
  · rw [if_pos h0] at hc
    injection hc with h1 h2
    have HR := Lib.hid (And.intro h1 h2)
    have HL := Lib.hid (show decide (lf = 0) = true from decide_eq_true h0)
    clear h0 h1 h2
    go_enter Tryd.func12, Tryd.ntmps12
    go_wp2_with fail
    refine (burnt_any _ _ _ _ _ _ HD.out hl).mono ?_; rintro e w1 ⟨rfl, hd1, ht1, _⟩
    rw [HL.out]
    have HD1 := Lib.hid hd1; have HT1 := Lib.hid ht1
    clear hd1 ht1
    go_wp2_with fail
    go_ret
    obtain ⟨rfl, rfl⟩ := HR.out
    exact ⟨rfl, ⟨L, rfl, HD1.out⟩, HT1.out⟩
  · rw [if_neg h0, abs_find] at hc
    have HL := Lib.hid (show decide (lf = 0) = false from decide_eq_false h0)
    clear h0
    cases hf : findF L p with
    | none =>
      rw [hf] at hc
      injection hc with h1 h2
      have HR := Lib.hid (And.intro h1 h2)
      have HF := Lib.hid (file_no hf)
      have HI : Hid ((findF L p).isSome = false) := by rw [hf]; exact Lib.hid rfl
      clear h1 h2 hf
      go_enter Tryd.func12, Tryd.ntmps12
      go_wp2_with fail
      refine (burnt_any _ _ _ _ _ _ HD.out hl).mono ?_; rintro e w1 ⟨rfl, hd1, ht1, _⟩
      rw [HL.out]
      have c2 := hd1.c2
      have HD1 := Lib.hid hd1; have HT1 := Lib.hid ht1
      clear hd1 ht1
      go_wp2_with (at_lookup; refine wpList_look_file _ rfl _ _ rfl B L.length L rfl HD1.out.own p rfl hp _ _ HF.out HI.out ?_)
      go_ret
      obtain ⟨rfl, rfl⟩ := HR.out
      exact ⟨rfl, ⟨L, rfl, HD1.out.alloc _⟩, HT1.out.alloc _⟩
    | some f =>
      rw [hf] at hc
      injection hc with h1 h2
      have HR := Lib.hid (And.intro h1 h2)
      have HF := Lib.hid (file_at hf)
      have HI : Hid ((findF L p).isSome = true) := by rw [hf]; exact Lib.hid rfl
      have HM := Lib.hid (findF_some hf)
      clear h1 h2 hf
      go_enter Tryd.func12, Tryd.ntmps12
      go_wp2_with fail
      refine (burnt_any _ _ _ _ _ _ HD.out hl).mono ?_; rintro e w1 ⟨rfl, hd1, ht1, _⟩
      rw [HL.out]
      have c2 := hd1.c2
      have hd2 := hd1.alloc (.cells #[.slice f.A f.n f.c, .int .i64 f.safe] 57)
      have hd3 := hd2.below (Below.refl _ _).drew
      have c22 := hd3.c2
      obtain ⟨W, hrun, hown, hturn⟩ := hd3.own.store keyed_s Tryd.underlying53 (by unfold maxLen; omega) (key_of hp) (val := .agg #[.slice f.A f.n f.c, .int .i64 f.n]) (show rawE _ = _ from rfl)
      have HD1 := Lib.hid hd1; have HD3 := Lib.hid hd3; have HT1 := Lib.hid ht1; have HW := Lib.hid hown; have HTN := Lib.hid hturn
      clear hd1 hd2 hd3 ht1 hown hturn
      go_wp2_with (at_lookup; refine wpList_look_file _ rfl _ _ rfl B L.length L rfl HD1.out.own p rfl hp _ _ HF.out HI.out ?_)
      go_region
      go_wp2_with fail
      go_ret
      obtain ⟨rfl, rfl⟩ := HR.out
      have hrow := HD3.out.row f HM.out.1
      have hpf := HM.out.2
      have hg : FlOk (w1.alloc (.cells #[.slice f.A f.n f.c, .int .i64 f.safe] 57)).drew ⟨p, f.A, f.n, f.c, f.b, f.n⟩ := ⟨hrow.1, hrow.2.1, hrow.2.2.1, hrow.2.2.2.1, Nat.le_refl _, hp⟩
      have hda := HD3.out.put HTN.out (g := ⟨p, f.A, f.n, f.c, f.b, f.n⟩) ⟨f, HM.out.1, hpf⟩ (by rw [← dat_put]; exact HW.out) hg
      have e : Fl.abs ⟨p, f.A, f.n, f.c, f.b, f.n⟩ = ⟨p, f.abs.b, f.abs.b.length⟩ := by
        show Mf.mk p f.b f.n = Mf.mk p f.b f.b.length
        rw [hrow.1.len]
      rw [e] at hda
      exact ⟨rfl, hda, ((HT1.out.alloc _).trans (Turn.of_below (Below.refl _ _).drew)).map HTN.out⟩
end Go.Proofs.YtekdcnlbdgikoaaDoor

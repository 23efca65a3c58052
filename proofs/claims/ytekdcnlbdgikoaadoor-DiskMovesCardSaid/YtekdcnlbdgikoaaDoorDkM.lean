/- The disk as the laws see it: files by rising paths, without their places. -/
import Derived.Test.YtekdcnlbdgikoaaDoorDkC
namespace Go.Proofs.YtekdcnlbdgikoaaDoor
open Go.RowKit

/-- A file: its path, its bytes, how many are safe. -/
structure Mf where
  p : ByteArray
  b : List Int
  safe : Nat
def Fl.abs (f : Fl) : Mf := ⟨f.p, f.b, f.safe⟩
def absF (L : List Fl) : List Mf := L.map Fl.abs
def findM (M : List Mf) (s : ByteArray) : Option Mf := M.find? fun f => decide (f.p = s)
def insM (f : Mf) : List Mf → List Mf
  | [] => [f]
  | g :: r => if befF f.p g.p then f :: g :: r else g :: insM f r
def setM (M : List Mf) (g : Mf) : List Mf := M.map fun x => if x.p = g.p then g else x
def usedM (M : List Mf) : Nat := (M.map fun f => f.b.length).sum
def SortM (M : List Mf) : Prop := M.Pairwise fun f g => befF f.p g.p = true
theorem abs_find (L : List Fl) (s : ByteArray) : findM (absF L) s = (findF L s).map Fl.abs := by
  unfold findM absF findF
  rw [List.find?_map]
  rfl
theorem abs_ins (f : Fl) (L : List Fl) : absF (insF f L) = insM f.abs (absF L) := by
  induction L with
  | nil => rfl
  | cons g r ih =>
    show absF (if befF f.p g.p then f :: g :: r else g :: insF f r) = if befF f.p g.p then f.abs :: g.abs :: absF r else g.abs :: insM f.abs (absF r)
    split
    · rfl
    · rw [← ih]; rfl
theorem abs_set (L : List Fl) (g : Fl) : absF (L.map fun x => if x.p = g.p then g else x) = setM (absF L) g.abs := by
  unfold absF setM
  rw [List.map_map, List.map_map]
  refine List.map_congr_left fun x _ => ?_
  show Fl.abs (if x.p = g.p then g else x) = if x.p = g.p then g.abs else x.abs
  split <;> rfl
theorem abs_len (L : List Fl) : (absF L).length = L.length := List.length_map _
theorem abs_sort {L : List Fl} (h : SortF L) : SortM (absF L) := List.pairwise_map.2 h
theorem abs_used {w : World} {L : List Fl} (h : ∀ f ∈ L, FlOk w f) : usedF L = usedM (absF L) := by
  unfold usedF usedM absF
  rw [List.map_map]
  congr 1
  exact List.map_congr_left fun f hf => (h f hf).1.len.symm

/-- A disk, without its files' places. -/
def Da (w : World) (d B : Nat) (q lf : Int) (M : List Mf) : Prop := ∃ L, absF L = M ∧ Dk w d B q lf L
def DaOut (w : World) (d B : Nat) (q lf : Int) (M : List Mf) (v : Value) (e : Ending) (w' : World) : Prop := e = .returned v ∧ Da w' d B q lf M ∧ Turn d B w w'
section
variable {w w' : World} {d B : Nat} {q lf : Int} {M : List Mf}
theorem Da.below (h : Da w d B q lf M) (hb : Below w.heap.size w w') : Da w' d B q lf M := by
  obtain ⟨L, e, k⟩ := h; exact ⟨L, e, k.below hb⟩
theorem Da.far (h : Da w d B q lf M) {A : Option Addr} {n : Nat} {l : List Int} (hr : Ri w .u8 A n l) : Far d B A n := by
  obtain ⟨L, _, k⟩ := h; exact k.far hr
theorem Da.sort (h : Da w d B q lf M) : SortM M := by
  obtain ⟨L, rfl, k⟩ := h; exact abs_sort k.sort
end

def createM (lf : Int) (M : List Mf) (p : ByteArray) : Int × List Mf :=
  if lf = 0 then (14, M) else if pathD p = false then (13, M) else if (findM M p).isSome = true then (12, M) else if 400 ≤ M.length then (3, M) else (0, insM ⟨p, [], 0⟩ M)
theorem create_abs (lf : Int) (L : List Fl) (p : ByteArray) : createM lf (absF L) p = ((createF lf L p).1, absF (createF lf L p).2) := by
  unfold createM createF
  rw [abs_find, Option.isSome_map, abs_len]
  repeat' split
  all_goals first
    | rfl
    | (rw [abs_ins]; rfl)
theorem CreateM_any (w : World) (d B : Nat) (q lf : Int) (M : List Mf) (h : Da w d B q lf M) (hl : -9223372036854775808 ≤ lf ∧ lf < 9223372036854775808) (hd0 : d ≠ 0) (hB0 : B ≠ 0) (p : ByteArray) (hp : p.size ≤ maxLen) (m : Int) (hm : w.cell? ⟨0, 0, none⟩ = some (.int .i64 m)) (er : Int) (M' : List Mf) (hc : createM lf M p = (er, M')) :
    Calls Tryd.prog 10 #[.pointer (some ⟨d, 0, none⟩), .string p] w (DaOut w d B q (burnL lf) M' (.int .i64 er)) := by
  obtain ⟨L, rfl, hk⟩ := h
  rw [create_abs] at hc
  injection hc with h1 h2
  refine (Create_any w d B q lf L hk hl hd0 hB0 p hp m hm er (createF lf L p).2 (Prod.ext h1 rfl)).mono ?_
  rintro e w' ⟨rfl, hd, ht⟩
  exact ⟨rfl, ⟨_, h2, hd⟩, ht⟩
end Go.Proofs.YtekdcnlbdgikoaaDoor

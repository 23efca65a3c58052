/- Joined texts: DkCl. Each has its own head line. No condition beyond those that its theorems state. -/
import Derived.Test.YtekdcnlbdgikoaaDoorJ37
import Derived.Test.YtekdcnlbdgikoaaDoorIter
set_option linter.unusedVariables false

/- disk.Clone. -/
namespace Go.Proofs.YtekdcnlbdgikoaaDoor
open Go.RowKit Go.Shelf Go.Maps

set_option maxRecDepth 100000 in
set_option maxHeartbeats 2000000 in
theorem Clone_any (w : World) (d B : Nat) (q lf : Int) (L : List Fl) (h : Dk w d B q lf L) :
    Calls Tryd.prog 24 #[.pointer (some ⟨d, 0, none⟩)] w fun e w' => ∃ d2 B2, e = .returned (.pointer (some ⟨d2, 0, none⟩)) ∧ Dk w' d2 B2 q lf L ∧ w.heap.size ≤ d2 ∧ w.heap.size ≤ B2 ∧ Below w.heap.size w w' := by
  have HD := Lib.hid h
  have c0 := h.c0
  have c1 := h.c1
  have c2 := h.c2
  have HCON := Lib.hid (show ∀ v : World, Dk v d B q lf L → Calls Tryd.prog 51 #[.map (some B)] v fun e w' => e = .returned (.map (some v.heap.size)) ∧ w'.ownsMap Tryd.prog 9 rawE v.heap.size L.length (dat L) ∧ w'.ownsMap Tryd.prog 9 rawE B L.length (dat L) ∧ Below v.heap.size v w' from fun v hv => AnyW.maps_Clone_owns Tryd.clone51 9 rawE B L.length (dat L) v hv.own)
  clear h
  have e0 : w.drew.cell? ⟨d, 0, none⟩ = some (.int .i64 q) := c0
  have e1 : w.drew.cell? ⟨d, 1, none⟩ = some (.int .i64 lf) := c1
  have e2 : w.drew.cell? ⟨d, 2, none⟩ = some (.map (some B)) := c2
  have HD2 := Lib.hid (HD.out.below (Below.refl _ _).drew)
  go_enter Tryd.func24, Tryd.ntmps24
  go_wp2_with fail
  go_region_held3 (fun w' => w'.cell? ⟨d, 0, none⟩ = some (.int .i64 q) ∧ w'.cell? ⟨d, 1, none⟩ = some (.int .i64 lf) ∧ w'.cell? ⟨d, 2, none⟩ = some (.map (some B))) (first | (with_reducible exact ⟨e0, e1, e2⟩) | (with_reducible exact ⟨i0, i1, i2⟩) | (with_reducible exact ⟨j0, j1, j2⟩))
    (first | (go_at_call 51; refine (HCON.out w.drew HD2.out).mono ?_; rintro e w3 ⟨rfl, ho3, hob3, hb3⟩
              have hd3 := HD2.out.below hb3
              have i0 : w3.cell? ⟨d, 0, none⟩ = some (.int .i64 q) := hd3.c0
              have i1 : w3.cell? ⟨d, 1, none⟩ = some (.int .i64 lf) := hd3.c1
              have i2 : w3.cell? ⟨d, 2, none⟩ = some (.map (some B)) := hd3.c2
              have hd4 := hd3.alloc (.cells #[.int .i64 q, .int .i64 lf, .map (some w.heap.size)] 55)
              have j0 := hd4.c0
              have j1 := hd4.c1
              have j2 := hd4.c2))
  go_wp2_with fail
  go_ret
  have hb := on (Below.refl _ _).drew hb3
  have hba := (Below.refl w3.heap.size w3).alloc (Nat.le_refl _) (.cells #[.int .i64 q, .int .i64 lf, .map (some w.heap.size)] 55)
  refine ⟨w3.heap.size, w.heap.size, rfl, ⟨IdiomRange_new w3 _, ?_, hd4.row⟩, hb.size, Nat.le_refl _, on hb hba⟩
  obtain ⟨es, clock, hB, hF⟩ := ho3
  exact ⟨es, clock, (hba.block _ (World.ownsMap.lt ⟨es, clock, hB, hF⟩)).trans hB, hF⟩
end Go.Proofs.YtekdcnlbdgikoaaDoor

/- Joined texts: DkO. Each has its own head line. No condition beyond those that its theorems state. -/
import Derived.Test.YtekdcnlbdgikoaaDoorJ26
import Derived.Test.YtekdcnlbdgikoaaDoorJ36
set_option linter.unusedVariables false

/- disk.Corrupt, Clone. -/
namespace Go.Proofs.YtekdcnlbdgikoaaDoor
open Go.RowKit

/-- A byte that is turned. -/
def is64r (x : Int) : Prop := -9223372036854775808 ≤ x ∧ x < 9223372036854775808
def turned (x m : Int) : Int := bits .xor .u8 x (m % 256)
def corruptM (M : List Mf) (p : ByteArray) (i m : Int) : List Mf :=
  match findM M p with
  | none => M
  | some f => if i < 0 ∨ (f.b.length : Int) ≤ i then M else setM M ⟨p, f.b.set i.toNat (turned (f.b[i.toNat]?.getD 0) m), f.safe⟩
theorem turned_u8 {b : List Int} (h : U8 b) (j : Nat) (m : Int) : U8 (b.set j (bits .xor .u8 (b[j]?.getD 0) (m % 256))) := fun x hx => by
  rcases List.mem_or_eq_of_mem_set hx with hx | rfl
  · exact h x hx
  · have := Go.bounds_u8 (wf_bits .xor .u8 (b[j]?.getD 0) (m % 256))
    exact ⟨this.1, by omega⟩
set_option maxRecDepth 100000 in
set_option maxHeartbeats 2000000 in
theorem Corrupt_any (w : World) (d B : Nat) (q lf : Int) (M : List Mf) (h : Da w d B q lf M) (hlen : M.length < 1000000) (hu : usedM M ≤ 1000000000) (p : ByteArray) (hp : p.size ≤ maxLen) (i m : Int) (hi : is64r i) (_hm : is64r m) :
    Calls Tryd.prog 41 #[.pointer (some ⟨d, 0, none⟩), .string p, .int .i64 i, .int .i64 m] w (DaOut w d B q lf (corruptM M p i m) (.tuple #[])) := by
  obtain ⟨L, rfl, hk⟩ := h
  rw [abs_len] at hlen
  rw [← abs_used hk.row] at hu
  have c2 := hk.c2
  have HD := Lib.hid hk
  unfold corruptM
  rw [abs_find]
  clear hk
  cases hf : findF L p with
  | none =>
    have HF := Lib.hid (file_no hf)
    have HI : Hid ((findF L p).isSome = false) := by rw [hf]; exact Lib.hid rfl
    clear hf
    go_enter Tryd.func41, Tryd.ntmps41
    go_wp2_with (at_lookup; refine wpList_look_file _ rfl _ _ rfl B L.length L rfl HD.out.own p rfl hp _ _ HF.out HI.out ?_)
    go_returns
    exact ⟨rfl, ⟨L, rfl, HD.out.alloc _⟩, (Turn.refl _).alloc _⟩
  | some f =>
    have HF := Lib.hid (file_at hf)
    have HI : Hid ((findF L p).isSome = true) := by rw [hf]; exact Lib.hid rfl
    have HM := Lib.hid (findF_some hf)
    have hrow := HD.out.row f (findF_some hf).1
    have hfn : f.n ≤ usedF L := by
      have := (findF_some hf).1
      unfold usedF
      exact mem_le_sum _ _ (List.mem_map_of_mem this)
    have HROW := Lib.hid hrow
    dsimp only [Option.map_some]
    rw [show f.abs.b.length = f.n from hrow.1.len]
    unfold is64r at hi
    clear hf hrow
    by_cases hbad : i < 0 ∨ (f.n : Int) ≤ i
    · rw [if_pos hbad]
      by_cases h1 : i < 0
      · have t1 : decide (i < 0) = true := decide_eq_true h1
        go_enter Tryd.func41, Tryd.ntmps41
        go_wp2_with (at_lookup; refine wpList_look_file _ rfl _ _ rfl B L.length L rfl HD.out.own p rfl hp _ _ HF.out HI.out ?_)
        go_returns
        exact ⟨rfl, ⟨L, rfl, HD.out.alloc _⟩, (Turn.refl _).alloc _⟩
      · have t1 : decide (i < 0) = false := decide_eq_false h1
        have t2 : decide ((f.n : Int) ≤ i) = true := decide_eq_true (by omega)
        clear hbad
        go_enter Tryd.func41, Tryd.ntmps41
        go_wp2_with (at_lookup; refine wpList_look_file _ rfl _ _ rfl B L.length L rfl HD.out.own p rfl hp _ _ HF.out HI.out ?_)
        go_returns
        exact ⟨rfl, ⟨L, rfl, HD.out.alloc _⟩, (Turn.refl _).alloc _⟩
    · rw [if_neg hbad]
      obtain ⟨j, rfl⟩ : ∃ j : Nat, i = j := ⟨i.toNat, by omega⟩
      have hj : j < f.n := by omega
      have t1 : decide ((j : Int) < 0) = false := decide_eq_false (by omega)
      have t2 : decide (f.n ≤ j) = false := decide_eq_false (by omega)
      obtain ⟨b0, o0, hA, hb0, hcb⟩ := HROW.out.1.all (by omega)
      obtain ⟨wa, hwa⟩ : ∃ wa, wa = w.alloc (.cells #[.slice f.A f.n f.c, .int .i64 f.safe] 57) := ⟨_, rfl⟩
      have hda := HD.out.alloc (.cells #[.slice f.A f.n f.c, .int .i64 f.safe] 57)
      have hnb := IdiomRange_new w (.cells #[.slice f.A f.n f.c, .int .i64 f.safe] 57)
      rw [← hwa] at hda hnb
      have hwl : w.heap.size < wa.heap.size := by rw [hwa]; simp
      have hra := hda.row f HM.out.1
      have hcl := Tryd.bytes_Clone_at ⟨b0, o0, none⟩ f.n f.c f.b wa HROW.out.1.len (by omega) (fun k hk => by
        obtain ⟨b1, o1, hA1, _, hc1⟩ := hra.1.all (by omega)
        rw [hA] at hA1
        injection hA1 with hA1
        injection hA1 with e1 e2
        subst e1 e2
        rw [add_none]
        exact hc1 k hk)
      have HCL := Lib.hid hcl
      have HDA := Lib.hid hda
      have HNB := Lib.hid hnb
      have HA := Lib.hid hA
      clear hbad hcl hda hnb hra hcb hA
      go_enter Tryd.func41, Tryd.ntmps41
      go_wp2_with (at_lookup; refine wpList_look_file _ rfl _ _ rfl B L.length L rfl HD.out.own p rfl hp _ _ HF.out HI.out ?_)
      rw [← hwa, HA.out]
      refine HCL.out.mono ?_; rintro e w2 ⟨v, rfl, hown, hne, hb2⟩
      obtain ⟨gg, cc, hv, hgb, hgl⟩ := hown.form (by omega)
      subst hv
      have HO := Lib.hid hown
      have hcj := (hown.cellAt j (by omega)).trans (show (f.b.map (Value.int .u8))[j]? = some (.int .u8 (f.b.getD j 0)) from by rw [List.getElem?_map, List.getElem?_eq_getElem (by rw [HROW.out.1.len]; exact hj), List.getD_eq_getElem?_getD, List.getElem?_eq_getElem (by rw [HROW.out.1.len]; exact hj)]; rfl)
      have hfj := hown.frozenAt j
      have HB2 := Lib.hid hb2
      have hst := hown.stored j (.int .u8 (bits .xor .u8 (f.b[j]?.getD 0) (m % 256)))
      obtain ⟨w3, hw3⟩ : ∃ w3, w3 = w2.setCell ⟨gg, j, none⟩ (.int .u8 (bits .xor .u8 (f.b[j]?.getD 0) (m % 256))) := ⟨_, rfl⟩
      rw [← hw3] at hst
      rw [← List.map_set] at hst
      have HO3 := Lib.hid hst.1
      have hb3 := hb2.grown hst.2 hb2.size (fun k e => by injection e with e; omega)
      have HD3 := Lib.hid (HDA.out.below hb3)
      have hnw3 := (hb3.block w.heap.size hwl).trans HNB.out
      have hd4 := HD3.out.below (Below.refl _ _).drew
      have c24 : w3.drew.cell? ⟨d, 2, none⟩ = some (.map (some B)) := HD3.out.c2
      have s4 : w3.drew.cell? ⟨w.heap.size, 1, none⟩ = some (.int .i64 f.safe) := by show w3.cell? _ = _; rw [cell_of_blk hnw3]; rfl
      obtain ⟨W, hrun, hown4, hturn⟩ := hd4.own.store keyed_s Tryd.underlying53 (by unfold maxLen; omega) (key_of hp) (val := .agg #[.slice (some ⟨gg, 0, none⟩) f.n cc, .int .i64 f.safe]) (show rawE _ = _ from rfl)
      have HW := Lib.hid hown4; have HTN := Lib.hid hturn; have HD4 := Lib.hid hd4
      have HB3 := Lib.hid hb3
      clear hown hne hst hb3 hnw3 hd4 hown4 hturn
      go_wp2_with fail
      rw [← hw3]
      clear hw3
      go_region
      go_wp2_with fail
      go_returns
      have hcap := own_cap HO3.out
      have hri := Ri.of_own HO3.out
      have hrow3 := HD3.out.row f HM.out.1
      have hg : FlOk w3.drew ⟨p, some ⟨gg, 0, none⟩, f.n, cc, f.b.set j (bits .xor .u8 (f.b[j]?.getD 0) (m % 256)), f.safe⟩ := ⟨hri, turned_u8 hrow3.2.1 j m, hcap.1, hcap.2, hrow3.2.2.2.2.1, hp⟩
      have hda := HD4.out.put HTN.out (g := ⟨p, some ⟨gg, 0, none⟩, f.n, cc, f.b.set j (bits .xor .u8 (f.b[j]?.getD 0) (m % 256)), f.safe⟩) ⟨f, HM.out.1, HM.out.2⟩ (by rw [← dat_put]; exact HW.out) hg
      exact ⟨rfl, hda, (((Turn.refl w).alloc _).trans (Turn.of_below (hwa ▸ on HB3.out (Below.refl _ _).drew))).map HTN.out⟩
end Go.Proofs.YtekdcnlbdgikoaaDoor

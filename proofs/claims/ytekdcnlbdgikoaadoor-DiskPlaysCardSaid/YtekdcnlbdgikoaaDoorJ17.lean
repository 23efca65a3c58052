/- Joined texts: DkA. Each has its own head line. No condition beyond those that its theorems state. -/
import Derived.Test.YtekdcnlbdgikoaaDoorJ10
import Derived.Test.YtekdcnlbdgikoaaDoorJ16
set_option linter.unusedVariables false

/- disk.Append. -/
namespace Go.Proofs.YtekdcnlbdgikoaaDoor
open Go.RowKit

def appendM (q lf : Int) (M : List Mf) (p : ByteArray) (bl : List Int) : Int × List Mf :=
  if lf = 0 then (14, M) else match findM M p with
    | none => (11, M)
    | some f => if 1048576 < f.b.length + bl.length then (3, M) else if q < (usedM M : Int) + bl.length then (10, M) else (0, setM M ⟨p, f.b ++ bl, f.safe⟩)

set_option maxRecDepth 100000 in
set_option maxHeartbeats 2000000 in
theorem Append_any (w : World) (d B : Nat) (q lf : Int) (M : List Mf) (h : Da w d B q lf M) (hl : -9223372036854775808 ≤ lf ∧ lf < 9223372036854775808) (p : ByteArray) (hp : p.size ≤ maxLen) (hlen : M.length < 1000000) (hu : usedM M ≤ 1000000)
    (A : Option Addr) (n cap : Nat) (bl : List Int) (hr : Ri w .u8 A n bl) (h8 : U8 bl) (hn : n ≤ 1000000) (er : Int) (M' : List Mf) (hc : appendM q lf M p bl = (er, M')) :
    Calls Tryd.prog 11 #[.pointer (some ⟨d, 0, none⟩), .string p, .slice A n cap] w (DaOut w d B q (burnL lf) M' (.int .i64 er)) := by
  obtain ⟨L, rfl, hk⟩ := h
  rw [abs_len] at hlen
  have HU := Lib.hid (abs_used hk.row)
  rw [← HU.out] at hu
  have HD := Lib.hid hk; have HR0 := Lib.hid hr; have HFAR := Lib.hid (hk.far hr); have HBL := Lib.hid hr.len; have H8 := Lib.hid h8
  unfold appendM at hc
  clear hk hr h8
  by_cases h0 : lf = 0
  · rw [if_pos h0] at hc
    injection hc with h1 h2
    have HR := Lib.hid (And.intro h1 h2)
    have HL := Lib.hid (show decide (lf = 0) = true from decide_eq_true h0)
    clear h0 h1 h2
    go_enter Tryd.func11, Tryd.ntmps11
    go_wp2_with fail
    refine (burnt_any _ _ _ _ _ _ HD.out hl).mono ?_; rintro e w1 ⟨rfl, hd1, ht1, _⟩
    rw [HL.out]
    have HD1 := Lib.hid hd1; have HT1 := Lib.hid ht1
    clear hd1 ht1
    go_wp2_with fail
    go_ret
    obtain ⟨rfl, rfl⟩ := HR.out
    exact ⟨rfl, ⟨L, rfl, HD1.out⟩, HT1.out⟩
  · rw [if_neg h0, abs_find] at hc
    have HL := Lib.hid (show decide (lf = 0) = false from decide_eq_false h0)
    clear h0
    cases hf : findF L p with
    | none =>
      rw [hf] at hc
      injection hc with h1 h2
      have HR := Lib.hid (And.intro h1 h2)
      have HF := Lib.hid (file_no hf)
      have HI : Hid ((findF L p).isSome = false) := by rw [hf]; exact Lib.hid rfl
      clear h1 h2 hf
      go_enter Tryd.func11, Tryd.ntmps11
      go_wp2_with fail
      refine (burnt_any _ _ _ _ _ _ HD.out hl).mono ?_; rintro e w1 ⟨rfl, hd1, ht1, _⟩
      rw [HL.out]
      have c2 := hd1.c2
      have HD1 := Lib.hid hd1; have HT1 := Lib.hid ht1
      clear hd1 ht1
      go_wp2_with (at_lookup; refine wpList_look_file _ rfl _ _ rfl B L.length L rfl HD1.out.own p rfl hp _ _ HF.out HI.out ?_)
      go_ret
      obtain ⟨rfl, rfl⟩ := HR.out
      exact ⟨rfl, ⟨L, rfl, HD1.out.alloc _⟩, HT1.out.alloc _⟩
    | some f =>
      rw [hf] at hc
      dsimp only [Option.map] at hc
      have hrow := HD.out.row f (findF_some hf).1
      have hfl : f.abs.b.length = f.n := hrow.1.len
      have hfn : f.n ≤ usedF L := by
        have := (findF_some hf).1
        unfold usedF
        exact mem_le_sum _ _ (List.mem_map_of_mem this)
      rw [hfl, HBL.out, ← HU.out] at hc
      have HF := Lib.hid (file_at hf)
      have HI : Hid ((findF L p).isSome = true) := by rw [hf]; exact Lib.hid rfl
      have HM := Lib.hid (findF_some hf)
      clear hf hrow hfl
      by_cases hbig : 1048576 < f.n + n
      · rw [if_pos hbig] at hc
        injection hc with h1 h2
        have HR := Lib.hid (And.intro h1 h2)
        have t1 : decide ((1048576 : Int) < (f.n : Int) + n) = true := decide_eq_true (by omega)
        clear h1 h2
        go_enter Tryd.func11, Tryd.ntmps11
        go_wp2_with fail
        refine (burnt_any _ _ _ _ _ _ HD.out hl).mono ?_; rintro e w1 ⟨rfl, hd1, ht1, _⟩
        rw [HL.out]
        have c2 := hd1.c2
        have HD1 := Lib.hid hd1; have HT1 := Lib.hid ht1
        clear hd1 ht1
        go_wp2_with (at_lookup; refine wpList_look_file _ rfl _ _ rfl B L.length L rfl HD1.out.own p rfl hp _ _ HF.out HI.out ?_)
        go_ret
        obtain ⟨rfl, rfl⟩ := HR.out
        exact ⟨rfl, ⟨L, rfl, HD1.out.alloc _⟩, HT1.out.alloc _⟩
      · rw [if_neg hbig] at hc
        have t1 : decide ((1048576 : Int) < (f.n : Int) + n) = false := decide_eq_false (by omega)
        have HC := Lib.hid hc
        clear hc
        go_enter Tryd.func11, Tryd.ntmps11
        go_wp2_with fail
        refine (burnt_any _ _ _ _ _ _ HD.out hl).mono ?_; rintro e w1 ⟨rfl, hd1, ht1, hs1⟩
        rw [HL.out]
        have c2 := hd1.c2
        have HD1 := Lib.hid hd1; have HT1 := Lib.hid ht1
        clear hd1 ht1
        go_wp2_with (at_lookup; refine wpList_look_file _ rfl _ _ rfl B L.length L rfl HD1.out.own p rfl hp _ _ HF.out HI.out ?_)
        have hd2 := HD1.out.alloc (.cells #[.slice f.A f.n f.c, .int .i64 f.safe] 57)
        obtain ⟨w2, hw2⟩ : ∃ w2, w2 = w1.alloc (.cells #[.slice f.A f.n f.c, .int .i64 f.safe] 57) := ⟨_, rfl⟩
        have hF : w2.heap[w.heap.size]? = some (.cells #[.slice f.A f.n f.c, .int .i64 f.safe] 57) := by rw [hw2, ← hs1]; exact IdiomRange_new _ _
        have HT2 : Hid (Turn d B w w2) := by rw [hw2]; exact Lib.hid (HT1.out.alloc _)
        rw [← hw2] at hd2 ⊢
        have HD2 := Lib.hid hd2
        have HFB := Lib.hid hF
        clear hd2 hw2 hF c2
        have q0 : w2.drew.cell? ⟨d, 0, none⟩ = some (.int .i64 q) := HD2.out.c0
        have hlu : usedF L ≤ 9223372036854775807 := by omega
        by_cases hq : q < (usedF L : Int) + n
        · have tq : decide (q < IntKind.i64.wrap ((usedF L : Int) + n)) = true := by rw [IntWalk.i64_in _ (by omega)]; exact decide_eq_true hq
          have hc := HC.out
          rw [if_pos hq] at hc
          injection hc with h1 h2
          have HR := Lib.hid (And.intro h1 h2)
          clear h1 h2 hq HC
          go_region_held3 (fun w' => w'.cell? ⟨d, 0, none⟩ = some (.int .i64 q)) (first | exact q0 | exact i0 | go_keep)
            (first | (go_at_call 18; refine (Used_any _ d B q (burnL lf) L (HD2.out.below (Below.refl _ _).drew) (by omega)).mono ?_; rintro e w3 ⟨rfl, hb3⟩; have i0 : w3.cell? ⟨d, 0, none⟩ = some (.int .i64 q) := (HD2.out.below (on (Below.refl _ _).drew hb3)).c0))
          go_wp2_with fail
          go_ret
          obtain ⟨rfl, rfl⟩ := HR.out
          have hb := on (Below.refl _ _).drew hb3
          exact ⟨rfl, ⟨L, rfl, HD2.out.below hb⟩, HT2.out.trans (Turn.of_below hb)⟩
        · have tq : decide (q < IntKind.i64.wrap ((usedF L : Int) + n)) = false := by rw [IntWalk.i64_in _ (by omega)]; exact decide_eq_false hq
          have hc := HC.out
          rw [if_neg hq] at hc
          injection hc with h1 h2
          have HR := Lib.hid (And.intro h1 h2)
          clear h1 h2 hq HC
          go_region_held3 (fun w' => w'.cell? ⟨d, 0, none⟩ = some (.int .i64 q)) (first | exact q0 | exact i0 | go_keep)
            (first | (go_at_call 18; refine (Used_any _ d B q (burnL lf) L (HD2.out.below (Below.refl _ _).drew) (by omega)).mono ?_; rintro e w3 ⟨rfl, hb3⟩; have i0 : w3.cell? ⟨d, 0, none⟩ = some (.int .i64 q) := (HD2.out.below (on (Below.refl _ _).drew hb3)).c0))
          go_wp2_with fail
          have hb := on (Below.refl _ _).drew hb3
          have HD3 := Lib.hid (HD2.out.below hb)
          have HT3 := Lib.hid (HT2.out.trans (Turn.of_below hb))
          have hlF : w.heap.size < w2.heap.size := by
            rcases Nat.lt_or_ge w.heap.size w2.heap.size with k | k
            · exact k
            · have := HFB.out; rw [Array.getElem?_eq_none k] at this; cases this
          have HF3 := Lib.hid ((hb.block _ hlF).trans HFB.out)
          have hsz3 : w.heap.size < w3.heap.size := Nat.lt_of_lt_of_le hlF hb.size
          clear hb hb3 i0 q0 tq
          have q2 : w3.drew.cell? ⟨d, 2, none⟩ = some (.map (some B)) := HD3.out.c2
          have qf0 : w3.drew.cell? ⟨w.heap.size, 0, none⟩ = some (.slice f.A f.n f.c) := by show w3.cell? _ = _; rw [cell_of_blk HF3.out]; rfl
          have qf1 : w3.drew.cell? ⟨w.heap.size, 1, none⟩ = some (.int .i64 f.safe) := by show w3.cell? _ = _; rw [cell_of_blk HF3.out]; rfl
          have HROW := Lib.hid (HD3.out.row f HM.out.1)
          have HRA := Lib.hid (HR0.out.turn HFAR.out HT3.out)
          obtain ⟨ob, hob⟩ : ∃ ob, ob = Obj.cells #[.slice f.A f.n f.c, .slice A n cap] 22 := ⟨_, rfl⟩
          have hba := (Below.refl w3.heap.size w3).alloc (Nat.le_refl _) ob
          have j2 : (w3.alloc ob).drew.cell? ⟨d, 2, none⟩ = some (.map (some B)) := (HD3.out.alloc ob).c2
          have j0 : (w3.alloc ob).drew.cell? ⟨w.heap.size, 0, none⟩ = some (.slice f.A f.n f.c) := (hba.cell (p := ⟨w.heap.size, 0, none⟩) hsz3).trans qf0
          have j1 : (w3.alloc ob).drew.cell? ⟨w.heap.size, 1, none⟩ = some (.int .i64 f.safe) := (hba.cell (p := ⟨w.heap.size, 1, none⟩) hsz3).trans qf1
          have HBA := Lib.hid hba
          have HOB := Lib.hid hob
          subst hob
          clear hba
          go_region_held3 (fun w' => w'.cell? ⟨d, 2, none⟩ = some (.map (some B)) ∧ w'.cell? ⟨w.heap.size, 0, none⟩ = some (.slice f.A f.n f.c) ∧ w'.cell? ⟨w.heap.size, 1, none⟩ = some (.int .i64 f.safe)) (first | (with_reducible exact ⟨q2, qf0, qf1⟩) | (with_reducible exact ⟨j2, j0, j1⟩) | (with_reducible exact ⟨i2, if0, if1⟩) | (with_reducible exact ⟨m2, m0, m1⟩))
            (first | (go_at_call 28; refine (Concat_any _ w3.heap.size _ _ _ _ _ _ _ _ (Blk.new w3 22 #[.slice f.A f.n f.c, .slice A n cap]).drew (HROW.out.1.alloc _).drew (HRA.out.alloc _).drew (by omega) (by omega)).mono ?_; rintro e w4 ⟨G, n4, c4, rfl, hs4, hb4⟩
                      have hd4 := (HD3.out.below (on HBA.out (Below.refl _ _).drew)).below hb4
                      have i2 := hd4.c2
                      have hf4 := ((hb4.block w.heap.size (by simp; omega)).trans (HBA.out.block _ hsz3)).trans HF3.out
                      have if0 : w4.cell? ⟨w.heap.size, 0, none⟩ = some (.slice f.A f.n f.c) := by rw [cell_of_blk hf4]; rfl
                      have if1 : w4.cell? ⟨w.heap.size, 1, none⟩ = some (.int .i64 f.safe) := by rw [cell_of_blk hf4]; rfl
                      obtain ⟨W, hrun, hown, hturn⟩ := hd4.own.store keyed_s Tryd.underlying53 (by unfold maxLen; omega) (key_of hp) (val := .agg #[.slice G n4 c4, .int .i64 f.safe]) (show rawE _ = _ from rfl)
                      have hBne : w.heap.size ≠ B := fun e => by have := HD.out.ltB; omega
                      have m2 : W.cell? ⟨d, 2, none⟩ = some (.map (some B)) := (World.cell?_of_block (hturn.grown.block d hd4.lt (fun e => by injection e with e; exact hd4.ne e))).trans i2
                      have m0 : W.cell? ⟨w.heap.size, 0, none⟩ = some (.slice f.A f.n f.c) := (World.cell?_of_block (hturn.grown.block w.heap.size (World.block_lt_of_cell? w4 _ if0) (fun e => by injection e with e; exact hBne e))).trans if0
                      have m1 : W.cell? ⟨w.heap.size, 1, none⟩ = some (.int .i64 f.safe) := (World.cell?_of_block (hturn.grown.block w.heap.size (World.block_lt_of_cell? w4 _ if1) (fun e => by injection e with e; exact hBne e))).trans if1))
          all_goals
            go_wp2_with fail
            go_ret
            obtain ⟨rfl, rfl⟩ := HR.out
            have hl4 := hs4.1.len
            rw [List.length_append, HBL.out, HROW.out.1.len] at hl4
            have hsf := HROW.out.2.2.2.2.1
            have hg : FlOk w4 ⟨p, G, n4, c4, f.b ++ bl, f.safe⟩ := ⟨hs4.1, (fun x hx => by rcases List.mem_append.1 hx with k | k; exact HROW.out.2.1 x k; exact H8.out x k), hs4.2.1, hs4.2.2, by show f.safe ≤ n4; omega, hp⟩
            have hda := hd4.put hturn (g := ⟨p, G, n4, c4, f.b ++ bl, f.safe⟩) ⟨f, HM.out.1, HM.out.2⟩ (by rw [← dat_put]; exact hown) hg
            exact ⟨rfl, hda, ((HT3.out.trans (Turn.of_below (on HBA.out (Below.refl _ _).drew))).trans (Turn.of_below hb4)).map hturn⟩
end Go.Proofs.YtekdcnlbdgikoaaDoor

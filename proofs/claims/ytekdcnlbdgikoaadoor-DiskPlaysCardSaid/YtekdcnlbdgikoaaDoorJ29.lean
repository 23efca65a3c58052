/- Joined texts: DkAo. Each has its own head line. No condition beyond those that its theorems state. -/
import Derived.Test.YtekdcnlbdgikoaaDoorJ17
set_option linter.unusedVariables false

/- disk.Append, and where the bytes lie that it wrote. -/
namespace Go.Proofs.YtekdcnlbdgikoaaDoor
open Go.RowKit

/-- What a call of the disk answers, and where its files' bytes lie. -/
def DkOutX (w : World) (d B : Nat) (q lf : Int) (L : List Fl) (M' : List Mf) (v : Value) (e : Ending) (w' : World) : Prop :=
  e = .returned v ∧ (∃ L', absF L' = M' ∧ Dk w' d B q lf L' ∧ ∀ f ∈ L', f ∈ L ∨ ∀ b o, f.A = some ⟨b, o, none⟩ → w.heap.size ≤ b) ∧ Turn d B w w'
theorem Dk.putL {w w' : World} {d B : Nat} {q lf : Int} {L : List Fl} {m : Nat} (h : Dk w d B q lf L) (ht : w.mapTurned w' B) {g : Fl} (hf : ∃ f ∈ L, f.p = g.p) (ho : w'.ownsMap Tryd.prog 9 rawE B m (dat (insF g (delF L g.p)))) (hg : FlOk w g) :
    Dk w' d B q lf (L.map fun x => if x.p = g.p then g else x) := by
  rw [put_there h.sort hf] at ho
  refine h.map ht ho fun f hf2 => ?_
  obtain ⟨x, hx, rfl⟩ := List.mem_map.1 hf2
  split
  · exact hg
  · exact h.row x hx
/-- What the caller then writes to his own bytes leaves the disk as it is. -/
theorem Dk.wrote {w0 w1 w2 : World} {d B ob z : Nat} {q lf lf' : Int} {L L' : List Fl} (h0 : Dk w0 d B q lf L) (h1 : Dk w1 d B q lf' L') (hx : ∀ f ∈ L', f ∈ L ∨ ∀ b o, f.A = some ⟨b, o, none⟩ → z ≤ b) (hob : w0.heap.size ≤ ob) (hz : ob < z) (hg : w1.grownBy w2 (some ob)) : Dk w2 d B q lf' L' := by
  have hdl := h0.lt
  have hBl := h0.ltB
  refine ⟨(hg.block d h1.lt (fun e => by injection e with e; omega)).trans h1.blk, h1.own.kept hg (fun e => by injection e with e; omega), fun f hf => ?_⟩
  have hrow := h1.row f hf
  refine ⟨⟨hrow.1.1, fun hn => ?_⟩, hrow.2⟩
  obtain ⟨b, o, e, hb, hc⟩ := hrow.1.2 hn
  refine ⟨b, o, e, Nat.lt_of_lt_of_le hb hg.size, fun j u hj => (World.cell?_of_block (hg.block b hb (fun e2 => ?_))).trans (hc j u hj)⟩
  injection e2 with e2
  rcases hx f hf with h | h
  · obtain ⟨b', o', e', hb', _⟩ := (h0.row f h).1.2 hn
    rw [e] at e'
    injection e' with e'
    injection e' with e'
    omega
  · have := h b o e
    omega

set_option maxRecDepth 100000 in
set_option maxHeartbeats 1000000 in
theorem ConcatO_any (w : World) (b : Nat) (A : Option Addr) (n cA : Nat) (la : List Int) (B : Option Addr) (m cB : Nat) (lb : List Int)
    (hb : Blk w b 22 #[.slice A n cA, .slice B m cB]) (ha : Ri w .u8 A n la) (hr : Ri w .u8 B m lb) (hn : n ≤ 1000000) (hm : m ≤ 1000000) :
    Calls Tryd.prog 28 #[.slice (some ⟨b, 0, none⟩) 2 2] w fun e w' => ∃ G c, e = .returned (.slice G (n + m) c) ∧ Hid (w'.ownsRow w.heap.size 5 1 (.slice G (n + m) c) (n + m) ((la ++ lb).map (Value.int .u8))) ∧ Below w.heap.size w w' := by
  have HA := Lib.hid ha; have HB := Lib.hid hr
  have hlt := hb.lt
  have g0 : w.cell? ⟨b, 0, none⟩ = some (.slice A n cA) := (hb.cell 0).trans rfl
  have g1 : w.cell? ⟨b, 1, none⟩ = some (.slice B m cB) := (hb.cell 1).trans rfl
  clear ha hr
  go_enter Tryd.func28, Tryd.ntmps28
  go_wp2_with fail
  refine wp_loop_rounds 3 ?_
  rw [rounds_succ]
  go_wp2_with fail
  rw [rounds_succ]
  go_wp2_with fail
  rw [rounds_succ]
  go_wp2_with fail
  have hG := Grow_any w (n + m) (by omega)
  rw [Int.natCast_add] at hG
  refine hG.mono ?_; rintro e w1 ⟨G, c, rfl, hc, hown, hb1⟩
  clear hG g0 g1
  have h0 := (Blk.below_ hb hb1)
  have g0 : w1.cell? ⟨b, 0, none⟩ = some (.slice A n cA) := (h0.cell 0).trans rfl
  have g1 : w1.cell? ⟨b, 1, none⟩ = some (.slice B m cB) := (h0.cell 1).trans rfl
  go_wp2_with fail
  refine wp_loop_rounds 3 ?_
  rw [rounds_succ]
  go_wp2_with (at_builtin; refine wpList_u8 _ rfl (.tmp 31) (.tmp 32) rfl w.heap.size _ 0 [] rfl hown.out _ _ _ la rfl (HA.out.below hb1) (by omega) hb1.size ?_; intro G2 c2 w2 hown2 hgr _)
  rw [Nat.zero_add, List.nil_append] at hown2
  have hb2 := push0 hb1 (Nat.le_refl _) hown.out hgr
  have HO2 := Lib.hid hown2
  have h0 := (Blk.below_ hb hb2)
  have g0 : w2.cell? ⟨b, 0, none⟩ = some (.slice A n cA) := (h0.cell 0).trans rfl
  have g1 : w2.cell? ⟨b, 1, none⟩ = some (.slice B m cB) := (h0.cell 1).trans rfl
  clear hown2 hgr
  go_wp2_with fail
  rw [rounds_succ]
  go_wp2_with (at_builtin; refine wpList_u8 _ rfl (.tmp 31) (.tmp 32) rfl w.heap.size _ n la rfl HO2.out _ _ _ lb rfl (HB.out.below hb2) (by omega) hb2.size ?_; intro G3 c3 w3 hown3 hgr _)
  have hb3 := push0 hb2 (Nat.le_refl _) HO2.out hgr
  have HO3 := Lib.hid hown3
  clear hown3 hgr
  go_wp2_with fail
  rw [rounds_succ]
  go_wp2_with fail
  go_ret
  exact ⟨_, _, rfl, HO3, hb3⟩
set_option maxRecDepth 100000 in
set_option maxHeartbeats 2000000 in
theorem AppendO_any (w : World) (d B : Nat) (q lf : Int) (L : List Fl) (hk : Dk w d B q lf L) (hl : -9223372036854775808 ≤ lf ∧ lf < 9223372036854775808) (p : ByteArray) (hp : p.size ≤ maxLen) (hlen : L.length < 1000000) (hu : usedF L ≤ 1000000)
    (A : Option Addr) (n cap : Nat) (bl : List Int) (hr : Ri w .u8 A n bl) (h8 : U8 bl) (hn : n ≤ 1000000) (er : Int) (M' : List Mf) (hc : appendM q lf (absF L) p bl = (er, M')) :
    Calls Tryd.prog 11 #[.pointer (some ⟨d, 0, none⟩), .string p, .slice A n cap] w (DkOutX w d B q (burnL lf) L M' (.int .i64 er)) := by
  have HU := Lib.hid (abs_used hk.row)
  have HD := Lib.hid hk; have HR0 := Lib.hid hr; have HFAR := Lib.hid (hk.far hr); have HBL := Lib.hid hr.len; have H8 := Lib.hid h8
  unfold appendM at hc
  clear hk hr h8
  by_cases h0 : lf = 0
  · rw [if_pos h0] at hc
    injection hc with h1 h2
    have HR := Lib.hid (And.intro h1 h2)
    have HL := Lib.hid (show decide (lf = 0) = true from decide_eq_true h0)
    clear h0 h1 h2
    go_enter Tryd.func11, Tryd.ntmps11
    go_wp2_with fail
    refine (burnt_any _ _ _ _ _ _ HD.out hl).mono ?_; rintro e w1 ⟨rfl, hd1, ht1, _⟩
    rw [HL.out]
    have HD1 := Lib.hid hd1; have HT1 := Lib.hid ht1
    clear hd1 ht1
    go_wp2_with fail
    go_ret
    obtain ⟨rfl, rfl⟩ := HR.out
    exact ⟨rfl, ⟨L, rfl, HD1.out, fun _ h => .inl h⟩, HT1.out⟩
  · rw [if_neg h0, abs_find] at hc
    have HL := Lib.hid (show decide (lf = 0) = false from decide_eq_false h0)
    clear h0
    cases hf : findF L p with
    | none =>
      rw [hf] at hc
      injection hc with h1 h2
      have HR := Lib.hid (And.intro h1 h2)
      have HF := Lib.hid (file_no hf)
      have HI : Hid ((findF L p).isSome = false) := by rw [hf]; exact Lib.hid rfl
      clear h1 h2 hf
      go_enter Tryd.func11, Tryd.ntmps11
      go_wp2_with fail
      refine (burnt_any _ _ _ _ _ _ HD.out hl).mono ?_; rintro e w1 ⟨rfl, hd1, ht1, _⟩
      rw [HL.out]
      have c2 := hd1.c2
      have HD1 := Lib.hid hd1; have HT1 := Lib.hid ht1
      clear hd1 ht1
      go_wp2_with (at_lookup; refine wpList_look_file _ rfl _ _ rfl B L.length L rfl HD1.out.own p rfl hp _ _ HF.out HI.out ?_)
      go_ret
      obtain ⟨rfl, rfl⟩ := HR.out
      exact ⟨rfl, ⟨L, rfl, HD1.out.alloc _, fun _ h => .inl h⟩, HT1.out.alloc _⟩
    | some f =>
      rw [hf] at hc
      dsimp only [Option.map] at hc
      have hrow := HD.out.row f (findF_some hf).1
      have hfl : f.abs.b.length = f.n := hrow.1.len
      have hfn : f.n ≤ usedF L := by
        have := (findF_some hf).1
        unfold usedF
        exact mem_le_sum _ _ (List.mem_map_of_mem this)
      rw [hfl, HBL.out, ← HU.out] at hc
      have HF := Lib.hid (file_at hf)
      have HI : Hid ((findF L p).isSome = true) := by rw [hf]; exact Lib.hid rfl
      have HM := Lib.hid (findF_some hf)
      clear hf hrow hfl
      by_cases hbig : 1048576 < f.n + n
      · rw [if_pos hbig] at hc
        injection hc with h1 h2
        have HR := Lib.hid (And.intro h1 h2)
        have t1 : decide ((1048576 : Int) < (f.n : Int) + n) = true := decide_eq_true (by omega)
        clear h1 h2
        go_enter Tryd.func11, Tryd.ntmps11
        go_wp2_with fail
        refine (burnt_any _ _ _ _ _ _ HD.out hl).mono ?_; rintro e w1 ⟨rfl, hd1, ht1, _⟩
        rw [HL.out]
        have c2 := hd1.c2
        have HD1 := Lib.hid hd1; have HT1 := Lib.hid ht1
        clear hd1 ht1
        go_wp2_with (at_lookup; refine wpList_look_file _ rfl _ _ rfl B L.length L rfl HD1.out.own p rfl hp _ _ HF.out HI.out ?_)
        go_ret
        obtain ⟨rfl, rfl⟩ := HR.out
        exact ⟨rfl, ⟨L, rfl, HD1.out.alloc _, fun _ h => .inl h⟩, HT1.out.alloc _⟩
      · rw [if_neg hbig] at hc
        have t1 : decide ((1048576 : Int) < (f.n : Int) + n) = false := decide_eq_false (by omega)
        have HC := Lib.hid hc
        clear hc
        go_enter Tryd.func11, Tryd.ntmps11
        go_wp2_with fail
        refine (burnt_any _ _ _ _ _ _ HD.out hl).mono ?_; rintro e w1 ⟨rfl, hd1, ht1, hs1⟩
        rw [HL.out]
        have c2 := hd1.c2
        have HD1 := Lib.hid hd1; have HT1 := Lib.hid ht1
        clear hd1 ht1
        go_wp2_with (at_lookup; refine wpList_look_file _ rfl _ _ rfl B L.length L rfl HD1.out.own p rfl hp _ _ HF.out HI.out ?_)
        have hd2 := HD1.out.alloc (.cells #[.slice f.A f.n f.c, .int .i64 f.safe] 57)
        obtain ⟨w2, hw2⟩ : ∃ w2, w2 = w1.alloc (.cells #[.slice f.A f.n f.c, .int .i64 f.safe] 57) := ⟨_, rfl⟩
        have hF : w2.heap[w.heap.size]? = some (.cells #[.slice f.A f.n f.c, .int .i64 f.safe] 57) := by rw [hw2, ← hs1]; exact IdiomRange_new _ _
        have HT2 : Hid (Turn d B w w2) := by rw [hw2]; exact Lib.hid (HT1.out.alloc _)
        rw [← hw2] at hd2 ⊢
        have HD2 := Lib.hid hd2
        have HFB := Lib.hid hF
        clear hd2 hw2 hF c2
        have q0 : w2.drew.cell? ⟨d, 0, none⟩ = some (.int .i64 q) := HD2.out.c0
        have hlu : usedF L ≤ 9223372036854775807 := by omega
        by_cases hq : q < (usedF L : Int) + n
        · have tq : decide (q < IntKind.i64.wrap ((usedF L : Int) + n)) = true := by rw [IntWalk.i64_in _ (by omega)]; exact decide_eq_true hq
          have hc := HC.out
          rw [if_pos hq] at hc
          injection hc with h1 h2
          have HR := Lib.hid (And.intro h1 h2)
          clear h1 h2 hq HC
          go_region_held3 (fun w' => w'.cell? ⟨d, 0, none⟩ = some (.int .i64 q)) (first | exact q0 | exact i0 | go_keep)
            (first | (go_at_call 18; refine (Used_any _ d B q (burnL lf) L (HD2.out.below (Below.refl _ _).drew) (by omega)).mono ?_; rintro e w3 ⟨rfl, hb3⟩; have i0 : w3.cell? ⟨d, 0, none⟩ = some (.int .i64 q) := (HD2.out.below (on (Below.refl _ _).drew hb3)).c0))
          go_wp2_with fail
          go_ret
          obtain ⟨rfl, rfl⟩ := HR.out
          have hb := on (Below.refl _ _).drew hb3
          exact ⟨rfl, ⟨L, rfl, HD2.out.below hb, fun _ h => .inl h⟩, HT2.out.trans (Turn.of_below hb)⟩
        · have tq : decide (q < IntKind.i64.wrap ((usedF L : Int) + n)) = false := by rw [IntWalk.i64_in _ (by omega)]; exact decide_eq_false hq
          have hc := HC.out
          rw [if_neg hq] at hc
          injection hc with h1 h2
          have HR := Lib.hid (And.intro h1 h2)
          clear h1 h2 hq HC
          go_region_held3 (fun w' => w'.cell? ⟨d, 0, none⟩ = some (.int .i64 q)) (first | exact q0 | exact i0 | go_keep)
            (first | (go_at_call 18; refine (Used_any _ d B q (burnL lf) L (HD2.out.below (Below.refl _ _).drew) (by omega)).mono ?_; rintro e w3 ⟨rfl, hb3⟩; have i0 : w3.cell? ⟨d, 0, none⟩ = some (.int .i64 q) := (HD2.out.below (on (Below.refl _ _).drew hb3)).c0))
          go_wp2_with fail
          have hb := on (Below.refl _ _).drew hb3
          have HD3 := Lib.hid (HD2.out.below hb)
          have HT3 := Lib.hid (HT2.out.trans (Turn.of_below hb))
          have hlF : w.heap.size < w2.heap.size := by
            rcases Nat.lt_or_ge w.heap.size w2.heap.size with k | k
            · exact k
            · have := HFB.out; rw [Array.getElem?_eq_none k] at this; cases this
          have HF3 := Lib.hid ((hb.block _ hlF).trans HFB.out)
          have hsz3 : w.heap.size < w3.heap.size := Nat.lt_of_lt_of_le hlF hb.size
          clear hb hb3 i0 q0 tq
          have q2 : w3.drew.cell? ⟨d, 2, none⟩ = some (.map (some B)) := HD3.out.c2
          have qf0 : w3.drew.cell? ⟨w.heap.size, 0, none⟩ = some (.slice f.A f.n f.c) := by show w3.cell? _ = _; rw [cell_of_blk HF3.out]; rfl
          have qf1 : w3.drew.cell? ⟨w.heap.size, 1, none⟩ = some (.int .i64 f.safe) := by show w3.cell? _ = _; rw [cell_of_blk HF3.out]; rfl
          have HROW := Lib.hid (HD3.out.row f HM.out.1)
          have HRA := Lib.hid (HR0.out.turn HFAR.out HT3.out)
          obtain ⟨ob, hob⟩ : ∃ ob, ob = Obj.cells #[.slice f.A f.n f.c, .slice A n cap] 22 := ⟨_, rfl⟩
          have hba := (Below.refl w3.heap.size w3).alloc (Nat.le_refl _) ob
          have j2 : (w3.alloc ob).drew.cell? ⟨d, 2, none⟩ = some (.map (some B)) := (HD3.out.alloc ob).c2
          have j0 : (w3.alloc ob).drew.cell? ⟨w.heap.size, 0, none⟩ = some (.slice f.A f.n f.c) := (hba.cell (p := ⟨w.heap.size, 0, none⟩) hsz3).trans qf0
          have j1 : (w3.alloc ob).drew.cell? ⟨w.heap.size, 1, none⟩ = some (.int .i64 f.safe) := (hba.cell (p := ⟨w.heap.size, 1, none⟩) hsz3).trans qf1
          have HBA := Lib.hid hba
          have HOB := Lib.hid hob
          subst hob
          clear hba
          go_region_held3 (fun w' => w'.cell? ⟨d, 2, none⟩ = some (.map (some B)) ∧ w'.cell? ⟨w.heap.size, 0, none⟩ = some (.slice f.A f.n f.c) ∧ w'.cell? ⟨w.heap.size, 1, none⟩ = some (.int .i64 f.safe)) (first | (with_reducible exact ⟨q2, qf0, qf1⟩) | (with_reducible exact ⟨j2, j0, j1⟩) | (with_reducible exact ⟨i2, if0, if1⟩) | (with_reducible exact ⟨m2, m0, m1⟩))
            (first | (go_at_call 28; refine (ConcatO_any _ w3.heap.size _ _ _ _ _ _ _ _ (Blk.new w3 22 #[.slice f.A f.n f.c, .slice A n cap]).drew (HROW.out.1.alloc _).drew (HRA.out.alloc _).drew (by omega) (by omega)).mono ?_; rintro e w4 ⟨G, c4, rfl, ho4, hb4⟩
                      have hd4 := (HD3.out.below (on HBA.out (Below.refl _ _).drew)).below hb4
                      have i2 := hd4.c2
                      have hf4 := ((hb4.block w.heap.size (by simp; omega)).trans (HBA.out.block _ hsz3)).trans HF3.out
                      have if0 : w4.cell? ⟨w.heap.size, 0, none⟩ = some (.slice f.A f.n f.c) := by rw [cell_of_blk hf4]; rfl
                      have if1 : w4.cell? ⟨w.heap.size, 1, none⟩ = some (.int .i64 f.safe) := by rw [cell_of_blk hf4]; rfl
                      obtain ⟨W, hrun, hown, hturn⟩ := hd4.own.store keyed_s Tryd.underlying53 (by unfold maxLen; omega) (key_of hp) (val := .agg #[.slice G (f.n + n) c4, .int .i64 f.safe]) (show rawE _ = _ from rfl)
                      have hBne : w.heap.size ≠ B := fun e => by have := HD.out.ltB; omega
                      have m2 : W.cell? ⟨d, 2, none⟩ = some (.map (some B)) := (World.cell?_of_block (hturn.grown.block d hd4.lt (fun e => by injection e with e; exact hd4.ne e))).trans i2
                      have m0 : W.cell? ⟨w.heap.size, 0, none⟩ = some (.slice f.A f.n f.c) := (World.cell?_of_block (hturn.grown.block w.heap.size (World.block_lt_of_cell? w4 _ if0) (fun e => by injection e with e; exact hBne e))).trans if0
                      have m1 : W.cell? ⟨w.heap.size, 1, none⟩ = some (.int .i64 f.safe) := (World.cell?_of_block (hturn.grown.block w.heap.size (World.block_lt_of_cell? w4 _ if1) (fun e => by injection e with e; exact hBne e))).trans if1))
          all_goals
            go_wp2_with fail
            go_ret
            obtain ⟨rfl, rfl⟩ := HR.out
            have hri4 := Ri.of_own ho4.out
            have hcap4 := own_cap ho4.out
            have hsf := HROW.out.2.2.2.2.1
            have hg : FlOk w4 ⟨p, G, f.n + n, c4, f.b ++ bl, f.safe⟩ := ⟨hri4, (fun x hx => by rcases List.mem_append.1 hx with k | k; exact HROW.out.2.1 x k; exact H8.out x k), hcap4.1, hcap4.2, by show f.safe ≤ f.n + n; omega, hp⟩
            have hda := hd4.putL hturn (g := ⟨p, G, f.n + n, c4, f.b ++ bl, f.safe⟩) ⟨f, HM.out.1, HM.out.2⟩ (by rw [← dat_put]; exact hown) hg
            refine ⟨rfl, ⟨_, abs_set L ⟨p, G, f.n + n, c4, f.b ++ bl, f.safe⟩, hda, fun x hx => ?_⟩, ((HT3.out.trans (Turn.of_below (on HBA.out (Below.refl _ _).drew))).trans (Turn.of_below hb4)).map hturn⟩
            obtain ⟨z, hz, rfl⟩ := List.mem_map.1 hx
            split
            · refine .inr fun b o e => ?_
              have e : G = some ⟨b, o, none⟩ := e
              subst e
              have := (ho4.out.lt b rfl).1
              have hw3 := HT3.out.size
              simp at this
              omega
            · exact .inl hz
end Go.Proofs.YtekdcnlbdgikoaaDoor

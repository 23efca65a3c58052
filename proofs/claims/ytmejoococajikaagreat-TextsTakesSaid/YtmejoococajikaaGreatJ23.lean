/- Joined texts: PCut. Each has its own head line. No condition beyond those that its theorems state. -/
import Derived.Deep.RegionLaw
import Derived.Deep.Cut
import Derived.Test.YtmejoococajikaaGreatJ13
import Derived.Test.YtmejoococajikaaGreatJ18
set_option linter.unusedVariables false

/- patched.cut. -/
namespace Go.Proofs.YtmejoococajikaaGreat
open Go.RowKit

/-- append onto a row of u64 of the call's own, in a region that draws its order. -/
theorem step_u64 {w : World} {ops : Array Oper} {o : Oper} {a : Act} {K : Act → World → Prop} {Q : Exit → Act → World → Prop} {E : Prop} (hgd : o.guard = none) (s x : Operand)
    (ho : o.op = .call { callee := .builtin .append, args := #[s, x], argTypes := #[89, 89] })
    (base : Nat) (v : Value) (n : Nat) (l : List Int) (hs : a.eval s = v) (hown : w.ownsRow base 109 1 v n (l.map (Value.int .u64)))
    (A : Option Addr) (m c : Nat) (l2 : List Int) (hx : a.eval x = .slice A m c) (hr : Ri w .u64 A m l2) (hb : n + m ≤ 2000000000) (hbase : base ≤ w.heap.size)
    (h : ∀ G cap w', w'.ownsRow base 109 1 (.slice G (n + m) cap) (n + m) ((l ++ l2).map (Value.int .u64)) → w.grownBy w' v.ownBlock → ((Value.slice G (n + m) cap).ownBlock = v.ownBlock ∨ (Value.slice G (n + m) cap).ownBlock = some w.heap.size) → K (a.put o.dst (.slice G (n + m) cap)) w') :
    if Region.wanted o (yielded ops a.tmps) = true then Oper.wp Tryz.prog o a w K Q else E := by
  have hw : Region.wanted o (yielded ops a.tmps) = true := by simp [Region.wanted, hgd]
  rw [if_pos hw]
  obtain ⟨i0, hi, hz0, hz1, hz2⟩ := info_parts info_u64
  refine wp_append_any w s x 89 ho base 109 i0 (.int .u64 0) 1 8 Tryz.underlying89 hi hz0 hz1 hz2 rfl (by decide) v n _ hs hown A m c _ hx hr (Ri.oneCell _ _) (by unfold maxLen; omega) (by omega) hbase ?_
  intro G cap w' h1 h2 h3 _
  rw [← List.map_append] at h1
  exact h G cap w' h1 h2 h3
/-- The numbers' lower parts have grown by one. -/
theorem cut_low {S : Nat} {w0 w w1 : World} {base g p last y : Int} {lo : List Int} {P : List (Int × Int)} {lv pv : Value} {n c : Nat} {G : Option Addr}
    (hr : Blk w S 151 #[.int .i64 base, lv, pv, .int .i64 g, .int .i64 p]) (hla : Blk w (S + 1) 3 #[.int .i64 last])
    (hlo : w.ownsRow (S + 2) 109 1 lv lo.length (lo.map (Value.int .u64))) (hpo : w.ownsRow (S + 2) 155 2 pv P.length (cellsP P)) (hap : Apart pv lv) (hb : Below S w0 w)
    (hown : w1.ownsRow (S + 2) 109 1 (.slice G n c) n ((lo ++ [y]).map (Value.int .u64))) (hn : n = lo.length + 1) (hg : w.grownBy w1 lv.ownBlock) (hat : (Value.slice G n c).ownBlock = lv.ownBlock ∨ (Value.slice G n c).ownBlock = some w.heap.size) :
    Blk w1 S 151 #[.int .i64 base, lv, pv, .int .i64 g, .int .i64 p] ∧ CutW S w0 (w1.setCell ⟨S, 1, none⟩ (.slice G n c)) base (lo ++ [y]) P g p last := by
  subst hn
  have hn : ∀ k, k < S + 2 → some k ≠ lv.ownBlock := fun k hk e => by have := (hlo.lt k e.symm).1; omega
  have h1 := hr.grown hg (hn S (by omega))
  have h2 := hla.grown hg (hn (S + 1) (by omega))
  have hpo1 := hap.symm.kept hpo hg
  have hz := hla.lt
  refine ⟨h1, .slice G (lo.length + 1) c, pv, h1.set_ 1 _, h2.far (by simp) _, ?_, ownsRow_setCell_below hpo1 (by simp) _, ?_, ?_⟩
  · have := ownsRow_setCell_below hown (a := ⟨S, 1, none⟩) (by simp) (.slice G (lo.length + 1) c)
    rw [List.length_append]; exact this
  · exact (hap.symm.grown hpo (Nat.le_refl _) hat).symm
  · refine Below.setCell ?_ (by simp) _
    exact below_of_grown hb hg (by omega) (fun k e => by have := (hlo.lt k e).1; omega)
theorem CutW.below {S : Nat} {w0 w w' : World} {base g p last : Int} {lo : List Int} {P : List (Int × Int)} (hS : w0.heap.size = S) (h : CutW S w0 w base lo P g p last) (hb : Below w.heap.size w w') : CutW S w0 w' base lo P g p last := by
  obtain ⟨lv, pv, hr, hla, hlo, hpo, hap, hbb⟩ := h
  subst hS
  exact ⟨lv, pv, hr.below_ hb, hla.below_ hb, own_below hlo hb, own_below hpo hb, hap, on hbb hb⟩
def lastOf (w : World) (b : Nat) : Nat := match w.cell? ⟨b, 0, none⟩ with | some (.int _ v) => v.toNat | _ => 0
theorem CutW.lastOf {S : Nat} {w0 w : World} {base g p : Int} {last : Nat} {lo : List Int} {P : List (Int × Int)} (h : CutW S w0 w base lo P g p last) : lastOf w (S + 1) = last := by
  obtain ⟨lv, pv, hr, hla, hlo, hpo, hap, hbb⟩ := h
  unfold Proofs.YtmejoococajikaaGreat.lastOf
  rw [hla.cell 0]; simp
theorem CutW.grow {S : Nat} {w0 w : World} {base l1 l2 gap patch : Int} {lo : List Int} {P : List (Int × Int)} (h : CutW S w0 w base lo (P ++ [(gap, patch)]) (bigger (gN P) (blen gap.toNat)) (bigger (pN P) (blen patch.toNat)) l1) (hl : l1 = l2) : CutW S w0 w base lo (P ++ [(gap, patch)]) (gN (P ++ [(gap, patch)])) (pN (P ++ [(gap, patch)])) l2 := by
  subst hl
  rw [gN_snoc, pN_snoc]
  have e : ∀ a b : Nat, ((max a b : Nat) : Int) = bigger a b := by intro a b; unfold bigger; split <;> omega
  rw [e, e]
  exact h
theorem CutW.drew {S : Nat} {w0 w : World} {base g p last : Int} {lo : List Int} {P : List (Int × Int)} (h : CutW S w0 w base lo P g p last) : CutW S w0 w.drew base lo P g p last := by
  obtain ⟨lv, pv, hr, hla, hlo, hpo, hap, hbb⟩ := h
  exact ⟨lv, pv, hr, hla, hlo, hpo, hap, hbb.drew⟩
/-- What cut answers. -/
def CutOut (w : World) (l : List Int) (x : Nat) (e : Ending) (w' : World) : Prop :=
  ∃ b A n c A2 n2 c2 g p, e = .returned (.tuple #[.agg #[.int .i64 b, .slice A n c, .slice A2 n2 c2, .int .i64 g, .int .i64 p], .bool (nearL l l.length && fitsPa l x)]) ∧ I64x b ∧ Below w.heap.size w w' ∧ n2 ≤ 2000 ∧
    (nearL l l.length = true → b = minL l ∧ g = gN (prL l x) ∧ p = wClosest (pN (prL l x)) ∧ Sl w' .u64 A n c (lowL (upL l) x) ∧ Rp w' A2 n2 (prL l x))
def CutI (w wr : World) (l : List Int) (x j : Nat) : Prop :=
  CutW w.heap.size w wr (minL l) (lowL ((upL l).take j) x) (pairsN (upL l) x j).1 (gN (pairsN (upL l) x j).1) (pN (pairsN (upL l) x j).1) (pairsN (upL l) x j).2

set_option maxRecDepth 100000 in
set_option maxHeartbeats 4000000 in
theorem cut_any (w : World) (A : Option Addr) (n cap : Nat) (l : List Int) (hr : Ri w .i64 A n l) (hu : I64 l) (hn : n ≤ 512) (h1 : 1 ≤ n) (x : Nat) (hx : x < 64) :
    Calls Tryz.prog 127 #[.slice A n cap, .int .i64 x] w (CutOut w l x) := by
  have HR := Lib.hid hr; have HN := Lib.hid hr.len; have HU := Lib.hid hu
  clear hr hu
  obtain ⟨bb, oo, rfl, hbl, hcells⟩ := HR.out.all (by omega)
  have HC := Lib.hid hcells; clear hcells
  go_enter Tryz.func127, Tryz.ntmps127
  go_wp2_with fail
  refine (Min_any _ _ _ _ l (HR.out.alloc _) (by omega) (by omega)).mono ?_; rintro e w' ⟨rfl, rfl⟩
  go_wp2_with fail
  go_loopw [20] (fun i wr => ∃ j : Nat, j ≤ n ∧ i = .int .i64 j ∧ Hid (CutI w wr l x j) ∧ Hid (nearL l j = true)) (fun i _ => n - (intOf i).toNat)
  case atStart =>
    refine ⟨0, by omega, rfl, ?_, rfl⟩
    refine ⟨.slice none 0 0, .slice none 0 0, (Blk.new _ _ _).alloc _, Blk.new_ (by simp), World.ownsRow_nil _ _ _ _, World.ownsRow_nil _ _ _ _, (fun g h => by cases h), ((Below.refl _ _).alloc (Nat.le_refl _) _).alloc (by simp) _⟩
  case round =>
    obtain ⟨j, hj, rfl, hin, hok⟩ := hrel
    have hci := hin.out
    unfold CutI at hci
    by_cases hlt : j < n
    · obtain ⟨lv, pv, hr, hla, hlo, hpo, hap, hb⟩ := hci
      have hcj := (hb.cell (p := ⟨bb, oo + j, none⟩) hbl).trans (HC.out j hlt)
      have c0 : wr.cell? ⟨w.heap.size, 0, none⟩ = some (.int .i64 (minL l)) := (hr.cell 0).trans rfl
      have hy := getD_i64x HU.out j
      have hmy := minL_at l j (by rw [HN.out]; exact hlt)
      have hmx := minL_i64x HU.out (by rw [HN.out]; omega)
      have hup := upL_at l j (by rw [HN.out]; exact hlt)
      have hdr := diffR_up (minL l) (l.getD j 0) hmy
      clear hr hla hlo hpo hap hb
      obtain ⟨B, hB⟩ : ∃ B, B = minL l := ⟨_, rfl⟩
      obtain ⟨u, hU⟩ : ∃ u, u = l.getD j 0 - B := ⟨_, rfl⟩
      rw [← hB] at c0 hmy hmx hup hdr
      rw [← hU] at hup hdr
      have HB := Lib.hid hB; have HUP := Lib.hid hup; have HDR := Lib.hid hdr; have HUE := Lib.hid hU
      obtain ⟨y, hY⟩ : ∃ y, y = l.getD j 0 := ⟨_, rfl⟩
      rw [← hY] at hcj hy hU hmy
      have HY := Lib.hid hY
      have hu0 : 0 ≤ u := by omega
      clear hB hup hdr hY hU
      by_cases hbig : u ≥ 9223372036854775808
      · have hd := HDR.out
        rw [if_pos hbig, ← HY.out] at hd
        have HD := Lib.hid hd
        have hbad := nearL_bad l l.length j (by rw [HN.out]; exact hlt) (Nat.le_refl _) (by rw [← HY.out, ← HB.out]; have := HUE.out; rw [← HY.out] at this; omega)
        have HBAD := Lib.hid hbad
        clear hd hbad
        go_wp2_with fail
        refine (Diff_any _ B y hmx hy 0 false false HD.out).mono ?_; rintro e w2 ⟨rfl, hb2⟩
        obtain ⟨lv2, pv2, hr2, hla2, hlo2, hpo2, hap2, hbw2⟩ := CutW.below rfl hin.out hb2
        have f0 := hr2.frozen 0; have f1 := hr2.frozen 1; have f2 := hr2.frozen 2; have f3 := hr2.frozen 3; have f4 := hr2.frozen 4
        have hlt2 := hr2.lt
        have hkF := ((((hr2.set_ 0 (.int .i64 0)).set_ 1 (.slice none 0 0)).set_ 2 (.slice none 0 0)).set_ 3 (.int .i64 0)).set_ 4 (.int .i64 0)
        have r0 := (hkF.cell 0).trans (show _ = some (Value.int .i64 0) from rfl)
        have r1 := (hkF.cell 1).trans (show _ = some (Value.slice none 0 0) from rfl)
        have r2 := (hkF.cell 2).trans (show _ = some (Value.slice none 0 0) from rfl)
        have r3 := (hkF.cell 3).trans (show _ = some (Value.int .i64 0) from rfl)
        have r4 := (hkF.cell 4).trans (show _ = some (Value.int .i64 0) from rfl)
        have HBW := Lib.hid hbw2
        have c1 := hr2.cell 0; have c2 := hr2.cell 1; have c3 := hr2.cell 2; have c4 := hr2.cell 3; have c5 := hr2.cell 4
        clear hr2 hla2 hlo2 hpo2 hap2 hbw2 hkF hb2
        go_wp2_with fail
        (try simp only [Exit.inBlock, Exit.then])
        refine bodyPost_ret (by simp [results, Tryz.results127, go_sem, r0, r1, r2, r3, r4]; try rfl) rfl ?_
        exact ⟨0, none, 0, 0, none, 0, 0, 0, 0, by rw [HBAD.out]; rfl, by unfold I64x; omega, ((((HBW.out.setCell (Nat.le_refl _) _).setCell (Nat.le_refl _) _).setCell (Nat.le_refl _) _).setCell (Nat.le_refl _) _).setCell (Nat.le_refl _) _, by omega, fun h => by rw [HBAD.out] at h; cases h⟩
      · have hd := HDR.out
        rw [if_neg hbig, ← HY.out] at hd
        have HD := Lib.hid hd
        have hnear := nearL_snoc l j (by rw [HN.out]; exact hlt)
        rw [hok.out, Bool.true_and, ← HY.out, ← HB.out, decide_eq_true (by have := HUE.out; rw [← HY.out] at this; omega)] at hnear
        have HNEAR := Lib.hid hnear
        have hlow := lowL_snoc (upL l) x j (by rw [upL_len, HN.out]; exact hlt)
        rw [HUP.out] at hlow
        have HLOW := Lib.hid hlow
        have hlen : (lowL ((upL l).take j) x).length = j := by rw [lowL, List.length_map, List.length_take, upL_len, HN.out]; omega
        have hlst := pairsN_last (upL l) x j
        have hpl := pairsN_len (upL l) x j (by omega)
        have hstep1 := pairsN_zero (upL l) x j
        have hstep2 := pairsN_some (upL l) x j
        rw [HUP.out] at hstep1 hstep2
        have HS1 := Lib.hid hstep1; have HS2 := Lib.hid hstep2
        clear hd hnear hlow hstep1 hstep2
        go_wp2_with fail
        refine (Diff_any _ B y hmx hy u false true HD.out).mono ?_; rintro e w2 ⟨rfl, hb2⟩
        have hc2 := CutW.below rfl hin.out hb2
        have HLEN := Lib.hid hlen; clear hlen
        obtain ⟨lo, hlo0⟩ : ∃ lo, lo = lowL ((upL l).take j) x := ⟨_, rfl⟩
        obtain ⟨P, hP0⟩ : ∃ P, P = (pairsN (upL l) x j).1 := ⟨_, rfl⟩
        obtain ⟨la, hl0⟩ : ∃ P, P = (pairsN (upL l) x j).2 := ⟨_, rfl⟩
        rw [← hP0] at hpl
        rw [← hl0] at hlst
        rw [← hlo0, ← hP0, ← hl0] at hc2
        have HLO0 := Lib.hid hlo0; have HP0 := Lib.hid hP0; have HL0 := Lib.hid hl0
        clear hlo0 hP0 hl0
        obtain ⟨lv2, pv2, hr2, hla2, hlo2, hpo2, hap2, hbw2⟩ := hc2
        have c1 : w2.cell? ⟨w.heap.size, 1, none⟩ = some lv2 := (hr2.cell 1).trans rfl
        have f1 := hr2.frozen 1
        have HR2 := Lib.hid hr2; have HLA2 := Lib.hid hla2; have HLO2 := Lib.hid hlo2; have HPO2 := Lib.hid hpo2; have HAP2 := Lib.hid hap2; have HBW2 := Lib.hid hbw2
        have hsz2 := hla2.lt; have hsz3 := hr2.lt
        have HAND := Lib.hid (and_low64 u x (by omega) hx)
        clear hr2 hla2 hlo2 hpo2 hap2 hbw2 hb2 c0 hcj
        go_wp2_with fail
        go_region_law (first
          | (refine step_u64 rfl (.tmp 37) (.tmp 43) rfl (w.heap.size + 2) lv2 lo.length lo (by kernel_rfl) (by first | exact (HLO2.out.alloc _).drew | exact HLO2.out.drew.alloc _ | exact HLO2.out.alloc _) _ 1 1 [_] (by kernel_rfl) (by first | exact Rd.one _ _ _ | exact (Rd.one _ _ _).drew) (by have := HLEN.out; rw [← HLO0.out] at this; omega) (by simp; omega) ?_; intro G1 g1 w3 hown hgrow hat; have hmid := cut_low (by first | exact (HR2.out.alloc _).drew | exact HR2.out.drew.alloc _ | exact HR2.out.alloc _) (by first | exact (HLA2.out.alloc _).drew | exact HLA2.out.drew.alloc _ | exact HLA2.out.alloc _) (by first | exact (HLO2.out.alloc _).drew | exact HLO2.out.drew.alloc _ | exact HLO2.out.alloc _) (by first | exact (HPO2.out.alloc _).drew | exact HPO2.out.drew.alloc _ | exact HPO2.out.alloc _) HAP2.out (by first | exact (HBW2.out.alloc (by omega) _).drew | exact HBW2.out.drew.alloc (by simp; omega) _ | exact HBW2.out.alloc (by omega) _) hown rfl hgrow hat; have HMID := Lib.hid hmid.2; have f3 := hmid.1.frozen 1; have c3 := hmid.1.cell 1; clear hmid hown hgrow hat))
        all_goals
          clear f3 c3 HLO2 HPO2 HR2 HLA2 HAP2 HBW2 c1 f1
          generalize w3.setCell ⟨w.heap.size, 1, none⟩ (.slice G1 (lo.length + 1) g1) = W at *
          have hm := HMID.out
          rw [HAND.out, HLO0.out, ← HLOW.out] at hm
          have HM := Lib.hid hm
          clear hm HMID
          have hdiv := div_range u x (by omega)
          by_cases hz : u / 2 ^ x = 0
          · have hs := HS1.out hz
            have HS := Lib.hid hs
            clear hs
            go_wp2_with fail
            go_roundw
            case rel =>
              refine ⟨j + 1, by omega, by go_num, ?_, HNEAR⟩
              have h := HM.out
              rw [HP0.out, HL0.out, ← HS.out] at h
              exact h
            case measure => simp [intOf] <;> omega
          · have hs := HS2.out hz
            have HS := Lib.hid hs
            clear hs
            have hzb : (u / 2 ^ x == 0) = false := by simp [hz]
            go_wp2_with fail
            go_loopw [51] (fun _ wr2 => ∃ (P2 : List (Int × Int)) (la2 : Nat), la2 ≤ j ∧ Hid (CutW w.heap.size w wr2 (minL l) (lowL ((upL l).take (j + 1)) x) P2 (gN P2) (pN P2) la2) ∧ Hid (gapsAt P2 la2 j (u / 2 ^ x) = gapsAt P la j (u / 2 ^ x))) (fun _ wr2 => j - lastOf wr2 (w.heap.size + 1))
            case atStart => exact ⟨P, la, hlst, HM, rfl⟩
            case round =>
              obtain ⟨P2, la2, hla2, hcw, hgap⟩ := hrel
              have hlen2 : P2.length ≤ 3 * j + 3 := by
                have e := congrArg List.length hgap.out
                rw [gapsAt_len, gapsAt_len] at e
                omega
              have hat := CutW.lastOf hcw.out
              obtain ⟨_, _, _, hla3, _, _, _, _⟩ := hcw.out
              have c5 : _ = some (Value.int .i64 la2) := (hla3.cell 0).trans rfl
              clear hla3
              by_cases hfar : 255 < j - la2
              · go_wp2_with fail
                refine (add_any w wr w.heap.size rfl _ _ _ _ _ _ hcw.out 255 0 (by omega) (by omega) (by omega) (by omega)).mono ?_; rintro e w4 ⟨rfl, hcw4⟩
                have hcw5 := CutW.grow (l2 := ((la2 + 255 : Nat) : Int)) hcw4 (by omega)
                have HCW5 := Lib.hid hcw5
                clear hcw4 hcw5 c5
                go_wp2_with fail
                go_roundw
                case rel => exact ⟨_, la2 + 255, by omega, HCW5, Lib.hid ((gapsAt_far P2 la2 j _ hfar).trans hgap.out)⟩
                case measure =>
                  rw [CutW.lastOf HCW5.out, hat]
                  omega
              · have hgn := gapsAt_near P2 la2 j (u / 2 ^ x) (by omega)
                have HGN := Lib.hid hgn
                clear hgn hat
                have HCD := Lib.hid (CutW.drew hcw.out)
                have hw1 : IntKind.i64.wrap ((j : Int) - la2) = (j : Int) - la2 := IntWalk.i64_in _ (by omega)
                have hw2 : wrap64 ((j : Int) - la2) = (j : Int) - la2 := IntWalk.wrap64_in _ (by omega)
                have c5d : wr.drew.cell? ⟨w.heap.size + 1, 0, none⟩ = some (.int .i64 la2) := c5
                go_wp2_with fail
                go_region_with (go_at_call 157; refine (add_any w _ w.heap.size rfl _ _ _ _ _ _ HCD.out ((j : Int) - la2) (u / 2 ^ x) (by omega) (by omega) (by omega) (by omega)).mono ?_; rintro e w4 ⟨rfl, hcw4⟩)
                all_goals
                  have hcw5 := CutW.grow (l2 := (j : Int)) hcw4 (by omega)
                  rw [show (j : Int) - (la2 : Int) = ((j - la2 : Nat) : Int) from by omega, ← HGN.out, hgap.out] at hcw5
                  have HCW5 := Lib.hid hcw5
                  clear hcw4 hcw5 c5 c5d
                  go_wp2_with fail
                  go_roundw
                  case rel =>
                    refine ⟨j + 1, by omega, by go_num, ?_, HNEAR⟩
                    have h := HCW5.out
                    show CutI w _ l x (j + 1)
                    unfold CutI
                    rw [HS.out]
                    rw [HP0.out, HL0.out] at h
                    exact h
                  case measure => simp [intOf] <;> omega
    · obtain rfl : j = n := by omega
      have e1 : CutW w.heap.size w wr (minL l) (lowL (upL l) x) (prL l x) (gN (prL l x)) (pN (prL l x)) (pairsN (upL l) x j).2 := by
        unfold prL
        rw [HN.out]
        rw [List.take_of_length_le (by rw [upL_len, HN.out]; exact Nat.le_refl _)] at hci
        exact hci
      have hnear : nearL l l.length = true := by rw [HN.out]; exact hok.out
      have HNEAR := Lib.hid hnear
      have hplen := pairsN_len (upL l) x j (by omega)
      have HPL : Hid ((prL l x).length ≤ 3 * j) := Lib.hid (by unfold prL; rw [HN.out]; exact hplen)
      clear hci hplen hnear
      obtain ⟨P, hP0⟩ : ∃ P, P = prL l x := ⟨_, rfl⟩
      rw [← hP0] at e1 HPL
      have HP0 := Lib.hid hP0
      have hE1 := Lib.hid e1
      obtain ⟨lv2, pv2, hr2, hla2, hlo2, hpo2, hap2, hbw2⟩ := e1
      obtain ⟨G2, q2, rfl⟩ := own_form hpo2
      obtain ⟨G1, q1, rfl⟩ := own_form hlo2
      have c2 : wr.cell? ⟨w.heap.size, 2, none⟩ = some (.slice G2 P.length q2) := (hr2.cell 2).trans rfl
      have c3 : wr.cell? ⟨w.heap.size, 3, none⟩ = some (.int .i64 (gN P)) := (hr2.cell 3).trans rfl
      have c4 : wr.cell? ⟨w.heap.size, 4, none⟩ = some (.int .i64 (pN P)) := (hr2.cell 4).trans rfl
      have HR2 := Lib.hid hr2; have HLO2 := Lib.hid hlo2; have HPO2 := Lib.hid hpo2; have HBW2 := Lib.hid hbw2
      clear hr2 hla2 hlo2 hpo2 hap2 hbw2 hP0
      go_wp2_with fail
      refine (Closest_any _ _).mono ?_; rintro e w2 ⟨rfl, hb2⟩
      have hr3 := HR2.out.below_ hb2
      have f4 := hr3.frozen 4
      have hr4 := hr3.set_ 4 (.int .i64 (wClosest (pN P)))
      have HLO4 := Lib.hid (ownsRow_setCell_below (a := ⟨w.heap.size, 4, none⟩) (own_below HLO2.out hb2) (by simp) (.int .i64 (wClosest (pN P))))
      have HPO4 := Lib.hid (ownsRow_setCell_below (a := ⟨w.heap.size, 4, none⟩) (own_below HPO2.out hb2) (by simp) (.int .i64 (wClosest (pN P))))
      have HBW4 := Lib.hid ((on HBW2.out hb2).setCell (p := ⟨w.heap.size, 4, none⟩) (Nat.le_refl _) (.int .i64 (wClosest (pN P))))
      have d4 := hr3.cell 4
      have hcl := wClosest_le (pN P)
      have hrg := (show PairsR P by rw [HP0.out]; exact prL_range HU.out x (by rw [HN.out]; omega)).gN_le.1
      have hfit : fitsPa l x = (decide (P.length ≤ 31) && decide ((gN P : Int) + wClosest (pN P) ≤ 64) && decide ((x : Int) + wClosest (pN P) ≤ 64)) := by unfold fitsPa; rw [← HP0.out]
      have hcond : (¬ P.length ≤ 31 ∧ fitsPa l x = false) ∨ (P.length ≤ 31 ∧ ¬ (gN P : Int) + wClosest (pN P) ≤ 64 ∧ fitsPa l x = false) ∨ (P.length ≤ 31 ∧ (gN P : Int) + wClosest (pN P) ≤ 64 ∧ ¬ (x : Int) + wClosest (pN P) ≤ 64 ∧ fitsPa l x = false) ∨ (P.length ≤ 31 ∧ (gN P : Int) + wClosest (pN P) ≤ 64 ∧ (x : Int) + wClosest (pN P) ≤ 64 ∧ fitsPa l x = true) := by
        rw [hfit]
        by_cases h1 : P.length ≤ 31 <;> by_cases h2 : (gN P : Int) + wClosest (pN P) ≤ 64 <;> by_cases h3 : (x : Int) + wClosest (pN P) ≤ 64 <;> simp [h1, h2, h3]
      have hend : ∀ wf : World, Blk wf w.heap.size 151 #[.int .i64 (minL l), .slice G1 (lowL (upL l) x).length q1, .slice G2 P.length q2, .int .i64 (gN P), .int .i64 (wClosest (pN P))] →
          wf.cell? ⟨w.heap.size, 0, none⟩ = some (.int .i64 (minL l)) ∧ wf.cell? ⟨w.heap.size, 1, none⟩ = some (.slice G1 (lowL (upL l) x).length q1) ∧ wf.cell? ⟨w.heap.size, 2, none⟩ = some (.slice G2 P.length q2) ∧ wf.cell? ⟨w.heap.size, 3, none⟩ = some (.int .i64 (gN P)) ∧ wf.cell? ⟨w.heap.size, 4, none⟩ = some (.int .i64 (wClosest (pN P))) := fun wf h => ⟨h.cell 0, h.cell 1, h.cell 2, h.cell 3, h.cell 4⟩
      have HEND := Lib.hid hend
      have hlt3 := hr3.lt
      clear hfit hend hb2 HR2 HLO2 HPO2 HBW2 c2 c3 c4
      generalize hKe : wClosest (pN P) = K at *
      have HKE := Lib.hid hKe
      generalize hGe : gN P = gg at *
      have HGE := Lib.hid hGe
      obtain ⟨hk0, hk1⟩ := hcl
      clear hKe hGe
      have hr5 : Blk (w2.setCell ⟨w.heap.size, 4, none⟩ (.int .i64 K)) w.heap.size 151 #[.int .i64 (minL l), .slice G1 (lowL (upL l) x).length q1, .slice G2 P.length q2, .int .i64 gg, .int .i64 K] := hr4
      have f0 := hr3.frozen 0; have f1 := hr3.frozen 1; have f2 := hr3.frozen 2; have f3 := hr3.frozen 3
      obtain ⟨c0, c1, c2, c3, c4⟩ := HEND.out _ hr5
      have HR5 := Lib.hid hr5
      clear hr3 hr4 hr5
      rcases hcond with ⟨hc1, hf⟩ | ⟨hc1, hc2, hf⟩ | ⟨hc1, hc2, hc3, hf⟩ | ⟨hc1, hc2, hc3, hf⟩
      all_goals
        have HF := Lib.hid hf
        clear hf
        go_upto_region 18 with fail
        clear f0 f1 f2 f3 f4 d4
        generalize w2.setCell ⟨w.heap.size, 4, none⟩ (.int .i64 K) = W at *
        have f0 := HR5.out.frozen 0; have f1 := HR5.out.frozen 1; have f2 := HR5.out.frozen 2; have f3 := HR5.out.frozen 3; have f4 := HR5.out.frozen 4
        have HKF := Lib.hid (HEND.out _ (((((HR5.out.set_ 0 (.int .i64 (minL l))).set_ 1 (.slice G1 (lowL (upL l) x).length q1)).set_ 2 (.slice G2 P.length q2)).set_ 3 (.int .i64 gg)).set_ 4 (.int .i64 K)))
        have HBF := Lib.hid (((((HBW4.out.setCell (p := ⟨w.heap.size, 0, none⟩) (Nat.le_refl _) (.int .i64 (minL l))).setCell (p := ⟨w.heap.size, 1, none⟩) (Nat.le_refl _) (.slice G1 (lowL (upL l) x).length q1)).setCell (p := ⟨w.heap.size, 2, none⟩) (Nat.le_refl _) (.slice G2 P.length q2)).setCell (p := ⟨w.heap.size, 3, none⟩) (Nat.le_refl _) (.int .i64 gg)).setCell (p := ⟨w.heap.size, 4, none⟩) (Nat.le_refl _) (.int .i64 K))
        have HLF := Lib.hid (ownsRow_setCell_below (a := ⟨w.heap.size, 4, none⟩) (ownsRow_setCell_below (a := ⟨w.heap.size, 3, none⟩) (ownsRow_setCell_below (a := ⟨w.heap.size, 2, none⟩) (ownsRow_setCell_below (a := ⟨w.heap.size, 1, none⟩) (ownsRow_setCell_below (a := ⟨w.heap.size, 0, none⟩) HLO4.out (by simp) (.int .i64 (minL l))) (by simp) (.slice G1 (lowL (upL l) x).length q1)) (by simp) (.slice G2 P.length q2)) (by simp) (.int .i64 gg)) (by simp) (.int .i64 K))
        have HPF := Lib.hid (ownsRow_setCell_below (a := ⟨w.heap.size, 4, none⟩) (ownsRow_setCell_below (a := ⟨w.heap.size, 3, none⟩) (ownsRow_setCell_below (a := ⟨w.heap.size, 2, none⟩) (ownsRow_setCell_below (a := ⟨w.heap.size, 1, none⟩) (ownsRow_setCell_below (a := ⟨w.heap.size, 0, none⟩) HPO4.out (by simp) (.int .i64 (minL l))) (by simp) (.slice G1 (lowL (upL l) x).length q1)) (by simp) (.slice G2 P.length q2)) (by simp) (.int .i64 gg)) (by simp) (.int .i64 K))
        clear HLO4 HPO4 HBW4 HR5
        go_wp2_with fail
        (try simp only [Exit.inBlock, Exit.then])
        generalize ((((W.setCell ⟨w.heap.size, 0, none⟩ (.int .i64 (minL l))).setCell ⟨w.heap.size, 1, none⟩ (.slice G1 (lowL (upL l) x).length q1)).setCell ⟨w.heap.size, 2, none⟩ (.slice G2 P.length q2)).setCell ⟨w.heap.size, 3, none⟩ (.int .i64 gg)).setCell ⟨w.heap.size, 4, none⟩ (.int .i64 K) = WF at *
        obtain ⟨r0, r1, r2, r3, r4⟩ := HKF.out
        refine bodyPost_ret (by simp [results, Tryz.results127, go_sem, r0, r1, r2, r3, r4]; try rfl) rfl ?_
        refine ⟨minL l, G1, (lowL (upL l) x).length, q1, G2, P.length, q2, gg, K, ?_, minL_i64x HU.out (by rw [HN.out]; omega), HBF.out, by have := HPL.out; omega, fun _ => ⟨rfl, by rw [← HGE.out, HP0.out], by rw [← HKE.out, HP0.out], Sl.of_own HLF.out, ?_⟩⟩
        · rw [HNEAR.out, HF.out]; first | rfl | (simp; done) | (simp; omega)
        · rw [← HP0.out]; exact Rp.of_own HPF.out
end Go.Proofs.YtmejoococajikaaGreat

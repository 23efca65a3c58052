/- Joined texts: PTake. Each has its own head line. No condition beyond those that its theorems state. -/
import Derived.Deep.DeepCutAuto
import Derived.Deep.RegionHeld3
import Derived.Test.YtmejoococajikaaGreatJ25
import Derived.Test.YtmejoococajikaaGreatJ17
set_option linter.unusedVariables false

/- patched.Take. -/
namespace Go.Proofs.YtmejoococajikaaGreat
open Go.RowKit

/-- Two rows are handed back: numbers, bytes, and the error. -/
def PTOut (w : World) (l r : List Int) (er : Int) (e : Ending) (w' : World) : Prop :=
  ∃ G n c G2 n2 c2, e = .returned (.tuple #[.slice G n c, .slice G2 n2 c2, .int .i64 er]) ∧ Sl w' .i64 G n c l ∧ Sl w' .u8 G2 n2 c2 r ∧ Below w.heap.size w w'
theorem PTOut.nil {w w' : World} {er : Int} (h : Below w.heap.size w w') : PTOut w [] [] er (.returned (.tuple #[.slice none 0 0, .slice none 0 0, .int .i64 er])) w' :=
  ⟨none, 0, 0, none, 0, 0, rfl, Sl.nil _ _, Sl.nil _ _, h⟩
theorem badT_eq {l r : List Int} {er : Int} (h : badT = (l, r, er)) : l = [] ∧ r = [] ∧ er = 2 := by
  injection h with h1 h2; injection h2 with h2 h3; exact ⟨h1.symm, h2.symm, h3.symm⟩
theorem byte_low5 (y : Int) (h0 : 0 ≤ y) (h : y < 256) : bits BinOp.and IntKind.u8 y 31 = y % 32 := by
  have : ∀ i : Fin 256, bits BinOp.and IntKind.u8 ((i.val : Nat) : Int) 31 = ((i.val : Nat) : Int) % 32 := by decide +kernel
  have h := this ⟨y.toNat, by omega⟩
  rwa [show (((⟨y.toNat, by omega⟩ : Fin 256).val : Nat) : Int) = y from by simp; omega] at h

set_option maxRecDepth 100000 in
set_option maxHeartbeats 4000000 in
theorem PTake_any (w : World) (A : Option Addr) (n cap : Nat) (b : List Int) (hr : Ri w .u8 A n b) (hu : U8 b) (hc : n ≤ cap) (hm : cap ≤ 9223372036854775807) (hn : n ≤ 1000000) (s : Bool) (l r : List Int) (er : Int) (hl : takePa b s = (l, r, er)) :
    Calls Tryz.prog 141 #[.slice A n cap, .bool s] w (PTOut w l r er) := by
  have HR := Lib.hid hr; have HU := Lib.hid hu; have HN := Lib.hid hr.len
  obtain ⟨k, code, many, rest, e0, hlk⟩ : ∃ k c m r e, lookR b = (k, c, m, r, e) := ⟨_, _, _, _, _, rfl⟩
  have HLK := Lib.hid hlk
  unfold takePa at hl
  rw [hlk] at hl
  simp only [] at hl
  have hlk2 := hlk
  unfold lookR at hlk2
  rw [hr.len] at hl hlk2
  clear hr hu hlk
  by_cases h2 : n < 2
  · rw [if_pos h2] at hlk2
    injection hlk2 with e1 hlk2; injection hlk2 with e2 hlk2; injection hlk2 with e3 hlk2; injection hlk2 with e4 e5
    subst e1 e2 e3 e4 e5
    rw [if_pos (.inl h2)] at hl
    obtain ⟨rfl, rfl, rfl⟩ := badT_eq hl
    clear hl
    go_enter Tryz.func141, Tryz.ntmps141
    go_wp2_with fail
    refine (Look_any _ _ _ _ b HR.out HU.out hc hm hn 0 0 0 [] 2 HLK.out).mono ?_; rintro e w1 ⟨G1, n1, c1, rfl, hs1, hb1⟩
    go_wp2_with fail
    refine bodyPost_ret (results_tmp3 rfl _ _ _) rfl ?_
    exact PTOut.nil hb1
  · rw [if_neg h2] at hlk2
    injection hlk2 with e1 hlk2; injection hlk2 with e2 hlk2; injection hlk2 with e3 hlk2; injection hlk2 with e4 e5
    subst e4 e5
    have hb0 := getD_byte HU.out 0; have hb1' := getD_byte HU.out 1
    have hmany : 1 ≤ many ∧ many ≤ 512 := by omega
    have hcode : 0 ≤ code ∧ code ≤ 31 := by omega
    have hW := wOf_in code hcode
    clear e1 e2 e3 hb0 hb1'
    have hk2 : (k ≠ 2 ∨ n < 4) ∨ (k = 2 ∧ ¬ n < 4) := by by_cases h : k = 2 <;> by_cases h' : n < 4 <;> simp [h, h']
    rcases hk2 with hk2 | ⟨rfl, hn4⟩
    · rw [if_pos (.inr hk2)] at hl
      obtain ⟨rfl, rfl, rfl⟩ := badT_eq hl
      clear hl
      by_cases hkk : k = 2
      · subst hkk
        have hn4 : n < 4 := by rcases hk2 with h | h; exact absurd rfl h; exact h
        clear hk2
        go_enter Tryz.func141, Tryz.ntmps141
        go_wp2_with fail
        refine (Look_any _ _ _ _ b HR.out HU.out hc hm hn 2 code many _ 0 HLK.out).mono ?_; rintro e w1 ⟨G1, n1, c1, rfl, hs1, hb1⟩
        have hl1 := hs1.1.len
        rw [List.length_drop, HN.out] at hl1
        have hn1 : n1 < 2 := by omega
        clear hl1
        go_wp2_with fail
        refine bodyPost_ret (results_tmp3 rfl _ _ _) rfl ?_
        exact PTOut.nil hb1
      · clear hk2
        have hkb : (k != 2) = true := by simp [hkk]
        go_enter Tryz.func141, Tryz.ntmps141
        go_wp2_with fail
        refine (Look_any _ _ _ _ b HR.out HU.out hc hm hn k code many _ 0 HLK.out).mono ?_; rintro e w1 ⟨G1, n1, c1, rfl, hs1, hb1⟩
        go_wp2_with fail
        refine bodyPost_ret (results_tmp3 rfl _ _ _) rfl ?_
        exact PTOut.nil hb1
    · rw [if_neg (by omega)] at hl
      have hc0 := getD_byte HU.out 2; have hc1 := getD_byte HU.out 3
      have hg0 : (b.drop 2).getD 0 0 = b.getD 2 0 := by simp [List.getD]
      have hg1 : (b.drop 2).getD 1 0 = b.getD 3 0 := by simp [List.getD]
      obtain ⟨c0, hce0⟩ : ∃ c, c = b.getD 2 0 := ⟨_, rfl⟩
      obtain ⟨d0, hde0⟩ : ∃ c, c = b.getD 3 0 := ⟨_, rfl⟩
      rw [← hce0] at hc0 hg0 hl
      rw [← hde0] at hc1 hg1 hl
      obtain ⟨nn, hnn⟩ : ∃ nn : Nat, (nn : Int) = c0 / 32 + 1 := ⟨(c0 / 32 + 1).toNat, by omega⟩
      obtain ⟨g, hg⟩ : ∃ g : Nat, (g : Int) = d0 / 32 + 1 := ⟨(d0 / 32 + 1).toNat, by omega⟩
      obtain ⟨sm, hsm⟩ : ∃ sm : Nat, (sm : Int) = d0 % 32 := ⟨(d0 % 32).toNat, by omega⟩
      have hKw := wOf_in (c0 % 32) (by omega)
      obtain ⟨K, hK⟩ : ∃ K : Nat, (K : Int) = wOf (c0 % 32) := ⟨(wOf (c0 % 32)).toNat, by omega⟩
      obtain ⟨W, hWe⟩ : ∃ W : Nat, (W : Int) = wOf code := ⟨(wOf code).toNat, by omega⟩
      rw [← hnn, ← hg, ← hsm, ← hK, ← hWe, Int.toNat_natCast, Int.toNat_natCast, Int.toNat_natCast, Int.toNat_natCast] at hl
      have hnnb : 1 ≤ nn ∧ nn ≤ 8 := by omega
      have hgb : 1 ≤ g ∧ g ≤ 8 := by omega
      have hsmb : sm ≤ 31 := by omega
      have hKb : 1 ≤ K ∧ K ≤ 64 := by omega
      have hWb : 1 ≤ W ∧ W ≤ 64 := by omega
      have HNN := Lib.hid hnn; have HG := Lib.hid hg; have HSM := Lib.hid hsm; have HK := Lib.hid hK; have HWE := Lib.hid hWe; have HL := Lib.hid hl
      have HG0 := Lib.hid hg0; have HG1 := Lib.hid hg1
      have hlow0 := byte_low5 c0 hc0.1 hc0.2; have hlow1 := byte_low5 d0 hc1.1 hc1.2
      have HLO0 := Lib.hid hlow0; have HLO1 := Lib.hid hlow1
      obtain ⟨hc01, hc02⟩ := hc0; obtain ⟨hc11, hc12⟩ := hc1
      clear hl hnn hg hsm hK hWe hKw hW hg0 hg1 hce0 hde0 hlow0 hlow1
      go_enter Tryz.func141, Tryz.ntmps141
      go_wp2_with fail
      refine (Look_any _ _ _ _ b HR.out HU.out hc hm hn 2 code many _ 0 HLK.out).mono ?_; rintro e w1 ⟨G1, n1, c1, rfl, hs1, hb1⟩
      have hl1 := hs1.1.len
      rw [List.length_drop, HN.out] at hl1
      have hn1 : 2 ≤ n1 := by omega
      have hn1n : n = n1 + 2 := by omega
      subst hn1n
      obtain ⟨b1, o1, rfl, hbl1, hcells⟩ := hs1.1.all (by omega)
      have q0 := hcells 0 (by omega); have q1 := hcells 1 (by omega)
      rw [Nat.add_zero, HG0.out] at q0
      rw [HG1.out] at q1
      have HS1 := Lib.hid hs1; have HB1 := Lib.hid hb1
      obtain ⟨hcc1, hcc2⟩ := hs1.2
      clear hl1 hcells hs1 hb1
      go_wp2_with fail
      go_upto_region 4 with fail
      go_cut [12, 13] (fun v1 v2 wx => v1 = .int .i64 nn ∧ v2 = .int .i64 sm ∧ Below w1.heap.size w1 wx)
      case first =>
        have q0d : w1.drew.cell? ⟨b1, o1, none⟩ = some (.int .u8 c0) := q0
        have q1d : w1.drew.cell? ⟨b1, o1 + 1, none⟩ = some (.int .u8 d0) := q1
        go_region
        all_goals
          go_wp2_with fail
          go_meet
          refine ⟨?_, ?_, (Below.refl _ _).drew⟩
          · have := HNN.out
            first | rfl | (congr 1; omega)
          · have := HSM.out
            first | rfl | (congr 1; omega)
      case rest =>
        obtain ⟨rfl, rfl, hb2⟩ := hcut
        obtain ⟨w2, hw2⟩ : ∃ w2, w2 = wc := ⟨_, rfl⟩
        subst hw2
        have p0 := (hb2.cell (p := ⟨b1, o1, none⟩) hbl1).trans q0
        have p1 := (hb2.cell (p := ⟨b1, o1 + 1, none⟩) hbl1).trans q1
        have HS2 := Lib.hid (HS1.out.below hb2)
        have HB2 := Lib.hid (on HB1.out hb2)
        have hbl2 := Nat.lt_of_lt_of_le hbl1 hb2.size
        clear q0 q1 hb2 HS1 HB1
        go_upto_region 5 with fail
        go_cut [14] (fun v1 wx => ∃ R : Nat, v1 = .pointer (some ⟨R, 0, none⟩) ∧ w2.heap.size ≤ R ∧ Hid (Blk wx R 151 #[.int .i64 0, .slice none 0 0, .slice none 0 0, .int .i64 g, .int .i64 K]) ∧ Hid (Below w2.heap.size w2 wx))
        case first =>
          have q0d : w2.drew.cell? ⟨b1, o1, none⟩ = some (.int .u8 c0) := p0
          have q1d : w2.drew.cell? ⟨b1, o1 + 1, none⟩ = some (.int .u8 d0) := p1
          have HVG := Lib.hid (show IntKind.i64.wrap (IntKind.i64.wrap (d0 / 32) + 1) = (g : Int) from by have := HG.out; rw [IntKind.wrap_i64, IntKind.wrap_i64]; omega)
          have HVK := Lib.hid (show wOf (IntKind.i64.wrap (bits BinOp.and IntKind.u8 c0 31)) = (K : Int) from by rw [HLO0.out, HK.out, show IntKind.i64.wrap (c0 % 32) = c0 % 32 from IntWalk.i64_in _ (by omega)])
          have hi0 : (0 : Int) < (n1 : Int) := by omega
          have hi0n : 0 < n1 := by omega
          have hi1 : (1 : Int) < (n1 : Int) := by omega
          have hnz : b1 ≠ w2.heap.size := by omega
          have HZ0 := Lib.hid (show ((w2.alloc (.cells #[.int .i64 0, .slice none 0 0, .slice none 0 0, .int .i64 0, .int .i64 0] 151)).drew).cell? ⟨b1, o1, none⟩ = some (.int .u8 c0) from (World.cell?_alloc_lt w2 (.cells #[.int .i64 0, .slice none 0 0, .slice none 0 0, .int .i64 0, .int .i64 0] 151) ⟨b1, o1, none⟩ hbl2).trans p0)
          have HZ1 := Lib.hid (show ((w2.alloc (.cells #[.int .i64 0, .slice none 0 0, .slice none 0 0, .int .i64 0, .int .i64 0] 151)).drew).cell? ⟨b1, o1 + 1, none⟩ = some (.int .u8 d0) from (World.cell?_alloc_lt w2 (.cells #[.int .i64 0, .slice none 0 0, .slice none 0 0, .int .i64 0, .int .i64 0] 151) ⟨b1, o1 + 1, none⟩ hbl2).trans p1)
          have hbz : b1 < ((w2.alloc (.cells #[.int .i64 0, .slice none 0 0, .slice none 0 0, .int .i64 0, .int .i64 0] 151)).drew).heap.size := by simp; omega
          have HKN := Lib.hid ((Blk.new w2 151 #[.int .i64 0, .slice none 0 0, .slice none 0 0, .int .i64 0, .int .i64 0]).drew)
          go_region_held3 (fun w' => w'.cell? ⟨b1, o1, none⟩ = some (.int .u8 c0) ∧ w'.cell? ⟨b1, o1 + 1, none⟩ = some (.int .u8 d0)) (first | (with_reducible exact ⟨q0d, q1d⟩) | (with_reducible exact ⟨i0, i1⟩) | go_keep)
            (first
              | (go_at_call 84; refine (Of_any _ _).mono ?_; rintro e w7 ⟨rfl, hb7⟩; have hb8 : Below w2.drew.heap.size w2.drew w7 := (by with_reducible exact hb7); have i0 := (hb8.cell (p := ⟨b1, o1, none⟩) hbl2).trans q0d; have i1 := (hb8.cell (p := ⟨b1, o1 + 1, none⟩) hbl2).trans q1d; have hz7 : w2.heap.size ≤ w7.heap.size := hb8.size; have hne7 : b1 ≠ w7.heap.size := (by omega); have hne8 : w7.heap.size ≠ b1 := (by omega); have HB8 := Lib.hid hb8; clear hb7 hb8)
              | (go_at_call 84; refine (Of_any _ _).mono ?_; rintro e w7 ⟨rfl, hb7⟩; have hb8 : Below ((w2.alloc (.cells #[.int .i64 0, .slice none 0 0, .slice none 0 0, .int .i64 0, .int .i64 0] 151)).drew).heap.size ((w2.alloc (.cells #[.int .i64 0, .slice none 0 0, .slice none 0 0, .int .i64 0, .int .i64 0] 151)).drew) w7 := (by with_reducible exact hb7); have i0 := (hb8.cell (p := ⟨b1, o1, none⟩) hbz).trans HZ0.out; have i1 := (hb8.cell (p := ⟨b1, o1 + 1, none⟩) hbz).trans HZ1.out; have kz := HKN.out.below_ hb8; have f0 := kz.frozen 0; have f1 := kz.frozen 1; have f2 := kz.frozen 2; have f3 := kz.frozen 3; have f4 := kz.frozen 4; have hzl := kz.lt; have y0 := kz.cell 0; have y1 := kz.cell 1; have y2 := kz.cell 2; have y3 := kz.cell 3; have y4 := kz.cell 4; have hnz2 := hnz.symm; have HKZ := Lib.hid kz; have HB9 := Lib.hid hb8; clear kz hb7 hb8))
          all_goals
            go_wp2_with fail
            go_meet
            first
            | (refine ⟨w7.heap.size, rfl, hz7, Lib.hid ?_, Lib.hid ((on (Below.refl w2.heap.size w2).drew HB8.out).alloc (on (Below.refl w2.heap.size w2).drew HB8.out).size _)⟩
               rw [HVG.out, HVK.out]
               exact Blk.new _ _ _)
            | (refine ⟨w2.heap.size, rfl, Nat.le_refl _, Lib.hid ?_, Lib.hid ((((((on ((Below.refl w2.heap.size w2).alloc (Nat.le_refl _) _).drew HB9.out).setCell (Nat.le_refl _) _).setCell (Nat.le_refl _) _).setCell (Nat.le_refl _) _).setCell (Nat.le_refl _) _).setCell (Nat.le_refl _) _)⟩
               rw [HVG.out, HVK.out]
               exact ((((HKZ.out.set_ 0 (.int .i64 0)).set_ 1 (.slice none 0 0)).set_ 2 (.slice none 0 0)).set_ 3 (.int .i64 g)).set_ 4 (.int .i64 K))
        case rest =>
          obtain ⟨R, rfl, hR, hrb, hb3⟩ := hcut
          obtain ⟨w3, hw3⟩ : ∃ w3, w3 = wc := ⟨_, rfl⟩
          subst hw3
          have HS3 := Lib.hid (HS2.out.below hb3.out)
          have HB3 := Lib.hid (on HB2.out hb3.out)
          have hbl3 := Nat.lt_of_lt_of_le hbl2 hb3.out.size
          have hR2 : w.heap.size ≤ R := Nat.le_trans HB2.out.size hR
          clear p0 p1 hb3 HS2 HB2
          have hrest4 : (b.drop 2).drop 2 = b.drop 4 := by rw [List.drop_drop]
          have HR4 := Lib.hid hrest4
          clear hrest4
          go_wp2_with fail
          refine (Of_any _ _).mono ?_; rintro e w4 ⟨rfl, hb4⟩
          rw [← HWE.out]
          have hk4 := hrb.out.below_ hb4
          have HK4 := Lib.hid hk4
          have d3 : w4.cell? ⟨R, 3, none⟩ = some (.int .i64 g) := (hk4.cell 3).trans rfl
          have d4 : w4.cell? ⟨R, 4, none⟩ = some (.int .i64 K) := (hk4.cell 4).trans rfl
          have HS4 := Lib.hid (HS3.out.below hb4)
          have HB4 := Lib.hid (on HB3.out hb4)
          have hbl4 := Nat.lt_of_lt_of_le hbl3 hb4.size
          clear hk4 hb4 HS3 HB3
          have hlen4 : (b.drop 4).length = n1 - 2 := by rw [List.length_drop, HN.out]; omega
          have HLEN4 := Lib.hid hlen4
          clear hlen4
          by_cases hn12 : n1 = 2
          · have hl := HL.out
            unfold takeP2 at hl
            rw [if_pos (.inr (by rw [HLEN4.out]; omega))] at hl
            obtain ⟨rfl, rfl, rfl⟩ := badT_eq hl
            subst hn12
            clear hl
            by_cases hgk : (64 : Int) < (g : Int) + K
            · go_wp2_with fail
              all_goals
                refine bodyPost_ret (results_tmp3 rfl _ _ _) rfl ?_
                exact PTOut.nil HB4.out
            · go_wp2_with fail
              all_goals
                refine bodyPost_ret (results_tmp3 rfl _ _ _) rfl ?_
                exact PTOut.nil HB4.out
          · have hc12 : ¬ c1 = 2 := by omega
            have hcase : (64 < g + K) ∨ (¬ 64 < g + K ∧ n1 - 2 < nn) ∨ (¬ 64 < g + K ∧ ¬ n1 - 2 < nn) := by omega
            rcases hcase with hgk | ⟨hgk, hln⟩ | ⟨hgk, hln⟩
            · have hl := HL.out
              unfold takeP2 at hl
              rw [if_pos (.inl hgk)] at hl
              obtain ⟨rfl, rfl, rfl⟩ := badT_eq hl
              clear hl
              go_wp2_with fail
              refine bodyPost_ret (results_tmp3 rfl _ _ _) rfl ?_
              exact PTOut.nil HB4.out
            · have hl := HL.out
              unfold takeP2 at hl
              rw [if_pos (.inr (by rw [HLEN4.out]; exact hln))] at hl
              obtain ⟨rfl, rfl, rfl⟩ := badT_eq hl
              clear hl
              go_wp2_with fail
              refine bodyPost_ret (results_tmp3 rfl _ _ _) rfl ?_
              exact PTOut.nil HB4.out
            · have hl := HL.out
              unfold takeP2 at hl
              rw [if_neg (by rw [HLEN4.out]; omega)] at hl
              have hrr := HS4.out.1.rest (i := 2) (by omega) (fun _ => rfl)
              rw [HR4.out] at hrr
              have HRR := Lib.hid hrr
              have HL2 := Lib.hid hl
              have hU4 : U8 (b.drop 4) := U8.drop HU.out 4
              have HU4 := Lib.hid hU4
              clear hrr hl hU4
              obtain ⟨u1, u2, e1, hun⟩ : ∃ u1 u2 e1, unpackR ((b.drop 4).drop nn) many W = (u1, u2, e1) := ⟨_, _, _, rfl⟩
              have HUN := Lib.hid hun
              have hl := HL2.out
              rw [hun] at hl
              obtain ⟨Bv, hBv⟩ : ∃ Bv, Bv = numR ((b.drop 4).take nn) := ⟨_, rfl⟩
              rw [← hBv] at hl
              have HBV := Lib.hid hBv; have HL3 := Lib.hid hl
              have HU8n := Lib.hid (U8.drop HU4.out nn)
              have HRN := Lib.hid (HRR.out.first (m := nn) (by omega))
              clear hun hl hBv HL2 HL
              go_wp2_with fail
              refine (number10_any _ _ nn (c1 - 2) ((b.drop 4).take nn) HRN.out (U8.take HU4.out nn) (by omega) (by omega) (by omega) (by omega)).mono ?_; rintro e w' ⟨rfl, rfl⟩
              rw [← HBV.out]
              have f0 := HK4.out.frozen 0
              have y0 : w4.cell? ⟨R, 0, none⟩ = some (.int .i64 0) := (HK4.out.cell 0).trans rfl
              have hkr := HK4.out.lt
              have hk5 := HK4.out.set_ 0 (.int .i64 Bv)
              have HK5 := Lib.hid (show Blk (w4.setCell ⟨R, 0, none⟩ (.int .i64 Bv)) R 151 #[.int .i64 Bv, .slice none 0 0, .slice none 0 0, .int .i64 g, .int .i64 K] from hk5)
              have hRb1 : R ≠ b1 := by omega
              have HRR5 := Lib.hid (HRR.out.setCell (p := ⟨R, 0, none⟩) (fun b o h => by injection h with h; injection h with h1 _; subst h1; exact hRb1) (.int .i64 Bv))
              have HB5 := Lib.hid (HB4.out.setCell (p := ⟨R, 0, none⟩) hR2 (.int .i64 Bv))
              clear hk5 d3 d4
              go_upto_region 11 with fail
              clear f0 y0
              generalize w4.setCell ⟨R, 0, none⟩ (.int .i64 Bv) = w5 at *
              go_cut [10, 11] (fun v1 v2 wx => ∃ (G : Option Addr) (m c : Nat) (G2 : Option Addr) (m2 c2 : Nat), v1 = .slice G2 m2 c2 ∧ v2 = .int .i64 e1 ∧ Hid (Blk wx R 151 #[.int .i64 Bv, .slice G m c, .slice none 0 0, .int .i64 g, .int .i64 K]) ∧ Hid (wx.ownsRow w5.heap.size 109 1 (.slice G m c) m (u1.map (Value.int .u64))) ∧ Hid (Sl wx .u8 G2 m2 c2 u2) ∧ Hid (∀ g' o', G2 = some ⟨g', o', none⟩ → w5.heap.size ≤ g') ∧ Hid (Below w.heap.size w wx) ∧ w5.heap.size ≤ wx.heap.size)
              case first =>
                have HQ := Lib.hid (HRR5.out.restIf (i := nn) (by omega) (cap := c1 - 2) (by omega))
                go_wp2_with fail
                all_goals
                  have HQ2 := HQ.out
                  first | rw [if_pos (by assumption)] at HQ2 | rw [if_neg (by assumption)] at HQ2
                  refine (UnpackF_any _ _ _ _ ((b.drop 4).drop nn) many W HQ2 HU8n.out (by omega) (by omega) u1 u2 e1 HUN.out).mono ?_; rintro e w6 ⟨G6, n6, c6, G7, n7, c7, rfl, hs6, hs7, hb6, ho6, hf6⟩
                  have hk6 := HK5.out.below_ hb6
                  have f1 := hk6.frozen 1
                  have y1 : w6.cell? ⟨R, 1, none⟩ = some (.slice none 0 0) := (hk6.cell 1).trans rfl
                  have hkl := hk6.lt
                  have HK6 := Lib.hid hk6; have HO6 := Lib.hid ho6; have HS7 := Lib.hid hs7; have HB6 := Lib.hid hb6; have HF6 := Lib.hid hf6
                  have hkR := HK5.out.lt
                  clear hk6 ho6 hs6 hs7 hb6 hf6 HQ2
                  go_wp2_with fail
                  go_meet
                  refine ⟨G6, n6, c6, G7, n7, c7, rfl, rfl, Lib.hid (HK6.out.set_ 1 (.slice G6 n6 c6)), Lib.hid (ownsRow_setCell_below HO6.out (by simpa using hkR) _), Lib.hid ⟨HS7.out.1.setCell (fun b o h h2 => ?_) _, HS7.out.2⟩, HF6, Lib.hid ((on HB5.out HB6.out).setCell hR2 _), by have := HB6.out.size; simp [World.setCell]; omega⟩
                  have := HF6.out b o h
                  have h2 : R = b := h2
                  omega
              case rest =>
                obtain ⟨GL, m, cL, GR, mr, cr, rfl, rfl, hk6, ho6, hs6, hf6, hb6, hz6⟩ := hcut
                obtain ⟨w6, hw6⟩ : ∃ w6, w6 = wc := ⟨_, rfl⟩
                subst hw6
                have hkR := HK5.out.lt
                by_cases he1 : e1 = 0
                · subst he1
                  have hl := HL3.out
                  unfold takeP2b at hl
                  rw [if_neg (by simp)] at hl
                  have hun := HUN.out
                  have hu1 : u1.length = many.toNat ∧ U64 u1 := by
                    unfold unpackR at hun
                    split at hun
                    · injection hun with h1 h2; injection h2 with h2 h3; cases h3
                    · split at hun
                      · injection hun with h1 h2; injection h2 with h2 h3; cases h3
                      · dsimp only at hun
                        split at hun
                        · injection hun with h1 h2
                          rw [← h1]
                          exact ⟨bitsL_len _ _ _ _, bits_u64 _ _ _ _ (by omega)⟩
                        · injection hun with h1 h2; injection h2 with h2 h3; cases h3
                  have hu2 : U8 u2 := by
                    unfold unpackR at hun
                    split at hun
                    · injection hun with h1 h2; injection h2 with h2 h3; cases h3
                    · split at hun
                      · injection hun with h1 h2; injection h2 with h2 h3; cases h3
                      · dsimp only at hun
                        split at hun
                        · injection hun with h1 h2; injection h2 with h2 h3
                          rw [← h2]
                          exact U8.drop HU8n.out _
                        · injection hun with h1 h2; injection h2 with h2 h3; cases h3
                  have hml := (Ri.of_own ho6.out).len
                  obtain ⟨hu1l, hu1u⟩ := hu1
                  have HU1 := Lib.hid hu1u
                  have hm1 : 1 ≤ m ∧ m ≤ 512 := by omega
                  have hmr : mr ≤ 1000000 := by
                    have h := hs6.out.1.len
                    unfold unpackR at hun
                    split at hun
                    · injection hun with h1 h2; injection h2 with h2 h3; cases h3
                    · split at hun
                      · injection hun with h1 h2; injection h2 with h2 h3; cases h3
                      · dsimp only at hun
                        split at hun
                        · injection hun with h1 h2; injection h2 with h2 h3
                          rw [← h2, List.length_drop, List.length_drop, HLEN4.out] at h
                          omega
                        · injection hun with h1 h2; injection h2 with h2 h3; cases h3
                  obtain ⟨v1, v2, e2, hun2⟩ : ∃ x y z, unpackR u2 sm (wClosest ((g : Int) + K)) = (x, y, z) := ⟨_, _, _, rfl⟩
                  rw [hun2] at hl
                  have HUN2 := Lib.hid hun2; have HL4 := Lib.hid hl; have HU2 := Lib.hid hu2; have HU1L := Lib.hid hu1l; have HML := Lib.hid hml
                  have d3 : w6.cell? ⟨R, 3, none⟩ = some (.int .i64 g) := (hk6.out.cell 3).trans rfl
                  have d4 : w6.cell? ⟨R, 4, none⟩ = some (.int .i64 K) := (hk6.out.cell 4).trans rfl
                  have hcrr := hs6.out.2
                  clear hl hun hun2 hu2 hu1l hml HUN HL3 hu1u
                  go_wp2_with fail
                  refine (Closest_any _ _).mono ?_; rintro e w7 ⟨rfl, hb7⟩
                  have HB7 := Lib.hid hb7; clear hb7
                  go_wp2_with fail
                  refine (UnpackF_any _ _ _ _ u2 sm (wClosest ((g : Int) + K)) (hs6.out.1.below HB7.out) HU2.out (by omega) hmr v1 v2 e2 HUN2.out).mono ?_; rintro e w8 ⟨G8, n8, c8, G9, n9, c9, rfl, hs8, hs9, hb8, ho8, hf8⟩
                  have hk8 := (hk6.out.below_ HB7.out).below_ hb8
                  have HK8 := Lib.hid hk8
                  have HB8 := Lib.hid (on (on hb6.out HB7.out) hb8)
                  have HOL := Lib.hid (own_below (own_below ho6.out HB7.out) hb8)
                  have HO8 := Lib.hid ho8; have HS9 := Lib.hid hs9; have HF8 := Lib.hid hf8
                  have hz7 := HB7.out.size
                  have hz8 := hb8.size
                  clear hs8 hs9 hb8 ho8 hf8 hk8 d3 d4
                  by_cases he2 : e2 = 0
                  · subst he2
                    have hl := HL4.out
                    unfold takeP3 at hl
                    rw [if_neg (by simp), Int.toNat_natCast] at hl
                    have hun2 := HUN2.out
                    have hv1 : v1.length = sm ∧ U64 v1 := by
                      have hc64 := wClosest_le ((g : Int) + K)
                      unfold unpackR at hun2
                      split at hun2
                      · injection hun2 with h1 h2; injection h2 with h2 h3; cases h3
                      · split at hun2
                        · injection hun2 with h1 h2; injection h2 with h2 h3; cases h3
                        · dsimp only at hun2
                          split at hun2
                          · injection hun2 with h1 h2
                            rw [← h1]
                            exact ⟨by rw [bitsL_len]; simp, bits_u64 _ _ _ _ (by omega)⟩
                          · injection hun2 with h1 h2; injection h2 with h2 h3; cases h3
                    have hn8 := (Ri.of_own HO8.out).len
                    rw [hv1.1] at hn8
                    subst hn8
                    obtain ⟨g', rfl, hgl, hlow⟩ := LowW.start HOL.out hm1.1
                    have hg6 := (ho6.out.lt g' rfl).2
                    have hA2 : ∀ b o, G8 = some ⟨b, o, none⟩ → b ≠ g' := fun b o h => by
                      subst h
                      have := (HO8.out.lt b rfl).1
                      omega
                    have hpat := patched_any w8 g' m cL G8 sm c8 u1 v1 Bv K g W hlow (Ri.of_own HO8.out) hv1.2 hA2 (by omega) hgb.1 hgb.2 hWb.2 (by omega) (by omega)
                    have z0 : w8.cell? ⟨R, 0, none⟩ = some (.int .i64 Bv) := (HK8.out.cell 0).trans rfl
                    have z1 : w8.cell? ⟨R, 1, none⟩ = some (.slice (some ⟨g', 0, none⟩) m cL) := (HK8.out.cell 1).trans rfl
                    have z2 : w8.cell? ⟨R, 2, none⟩ = some (.slice none 0 0) := (HK8.out.cell 2).trans rfl
                    have z3 : w8.cell? ⟨R, 3, none⟩ = some (.int .i64 g) := (HK8.out.cell 3).trans rfl
                    have z4 : w8.cell? ⟨R, 4, none⟩ = some (.int .i64 K) := (HK8.out.cell 4).trans rfl
                    have hpu := patchN_u64 K g W u1 v1 HU1.out sm
                    have HLOW := Lib.hid hlow
                    have hRg : R ≠ g' := by omega
                    clear hun2 hv1 hA2 hlow
                    cases hp : patchN K g W u1 v1 sm with
                    | none =>
                      rw [hp] at hpat hl
                      obtain ⟨rfl, rfl, rfl⟩ := badT_eq hl
                      have HPAT := Lib.hid hpat
                      clear hl hpat hp hpu
                      go_wp2_with fail
                      refine HPAT.out.mono ?_; rintro e w9 ⟨l2, rfl, hlw, _⟩
                      have HLW := Lib.hid hlw
                      clear hlw
                      go_wp2_with fail
                      refine bodyPost_ret (results_tmp3 rfl _ _ _) rfl ?_
                      exact PTOut.nil (HB8.out.grown HLW.out.grown HB8.out.size (fun k e => by injection e with e; subst e; have := HB5.out.size; omega))
                    | some q =>
                      rw [hp] at hpat hl
                      obtain ⟨hqu, hql⟩ := hpu q hp
                      have HPAT := Lib.hid hpat; have HL5 := Lib.hid hl; have HQU := Lib.hid hqu
                      have hbv : I64x Bv := by rw [HBV.out]; exact stepR_range 0 _ _ (by unfold I64x; omega) (by omega)
                      clear hl hpat hp hpu hqu
                      go_wp2_with fail
                      refine HPAT.out.mono ?_; rintro e w9 ⟨l2, rfl, hlw, hl2⟩
                      obtain rfl := hl2 q rfl
                      have HLW := Lib.hid hlw
                      have HK9 := Lib.hid (hlw.blk HK8.out hRg)
                      have HB9 := Lib.hid (HB8.out.grown hlw.grown HB8.out.size (fun k e => by injection e with e; subst e; have := HB5.out.size; omega))
                      have HS99 := Lib.hid (show Sl w9 .u8 G9 n9 c9 v2 from ⟨hlw.far HS9.out.1 (fun b o h => by have := HF8.out b o h; omega), HS9.out.2⟩)
                      have y1 : w9.cell? ⟨R, 1, none⟩ = some (.slice (some ⟨g', 0, none⟩) m cL) := (HK9.out.cell 1).trans rfl
                      have hqlen := hlw.len
                      have HQL := Lib.hid hqlen
                      clear hlw hl2 hqlen hql
                      go_wp2_with fail
                      go_loopw [17, 124] (fun v i wr => ∃ j : Nat, j ≤ m ∧ i = .int .i64 j ∧ Hid (wr.ownsRow w9.heap.size 3 1 v j ((sumL Bv (q.1.take j)).map (Value.int .i64))) ∧ Hid (Below w9.heap.size w9 wr) ∧ Hid ((q.1.take j).all (sumOk Bv s) = true)) (fun _ i _ => m - (intOf i).toNat)
                      case atStart => exact ⟨0, by omega, rfl, World.ownsRow_nil _ _ _ _, Below.refl _ _, rfl⟩
                      case round =>
                        obtain ⟨j, hj, rfl, hown, hbw, hok⟩ := hrel
                        by_cases hlt : j < m
                        · have hjl : j < q.1.length := by rw [HQL.out]; exact hlt
                          have hcu := (hbw.out.cell (p := ⟨g', j, none⟩) HLW.out.lt).trans (HLW.out.cell hlt)
                          have hc0' : wr.cell? ⟨R, 0, none⟩ = some (.int .i64 Bv) := (hbw.out.cell (p := ⟨R, 0, none⟩) HK9.out.lt).trans ((HK9.out.cell 0).trans rfl)
                          have hur := HQU.out _ (getD_mem q.1 j hjl)
                          have hts := take_snoc q.1 j hjl
                          have hall : q.1.all (sumOk Bv s) = true → sumOk Bv s (q.1.getD j 0) = true := fun h => List.all_eq_true.1 h _ (getD_mem q.1 j hjl)
                          have hsn : sumL Bv (q.1.take (j + 1)) = sumL Bv (q.1.take j) ++ [(stepR Bv (q.1.getD j 0) false).1] := by unfold sumL; rw [hts, List.map_append]; rfl
                          have hal : (q.1.take (j + 1)).all (sumOk Bv s) = sumOk Bv s (q.1.getD j 0) := by rw [hts, List.all_append, hok.out]; simp
                          obtain ⟨u, hue⟩ : ∃ u, u = q.1.getD j 0 := ⟨_, rfl⟩
                          rw [← hue] at hcu hur hall hsn hal
                          obtain ⟨x, ok, hst⟩ : ∃ x ok, stepR Bv u false = (x, ok) := ⟨_, _, rfl⟩
                          have hxr := stepR_range Bv u false hbv hur.1
                          have hsok : sumOk Bv s u = (ok && (s || decide (0 ≤ x))) := by unfold sumOk; rw [hst]
                          rw [hst] at hsn hxr
                          rw [hsok] at hall hal
                          have HST := Lib.hid hst; have HALL := Lib.hid hall; have HSN := Lib.hid hsn; have HAL := Lib.hid hal
                          have hzw := hbw.out.size
                          clear hts hall hsn hal hue hst hsok y1
                          have hcs : ((ok && (s || decide (0 ≤ x))) = false ∧ (ok = false ∨ (ok = true ∧ s = false ∧ x < 0))) ∨ ((ok && (s || decide (0 ≤ x))) = true ∧ ok = true ∧ (s = true ∨ (s = false ∧ ¬ x < 0))) := by
                            cases ok <;> cases s <;> by_cases hx0 : 0 ≤ x <;> simp [hx0] <;> omega
                          rcases hcs with ⟨hf, hcs⟩ | ⟨hf, rfl, hcs⟩
                          · have hl := HL5.out
                            unfold takeP4 at hl
                            simp only [] at hl
                            rw [if_neg (fun h => by rw [HALL.out h] at hf; cases hf)] at hl
                            obtain ⟨rfl, rfl, rfl⟩ := badT_eq hl
                            clear hl hf
                            rcases hcs with rfl | ⟨rfl, rfl, hx0⟩
                            all_goals
                              go_wp2_with fail
                              refine (Step_any _ Bv u false hbv hur x _ HST.out).mono ?_; rintro e w' ⟨rfl, rfl⟩
                              go_wp2_with fail
                              refine bodyPost_ret (results_tmp3 rfl _ _ _) rfl ?_
                              exact PTOut.nil (on HB9.out hbw.out)
                          · rw [hf] at HAL
                            clear hf
                            rcases hcs with rfl | ⟨rfl, hx0⟩
                            all_goals
                              go_wp2_with fail
                              refine (Step_any _ Bv u false hbv hur x true HST.out).mono ?_; rintro e w' ⟨rfl, rfl⟩
                              go_wp2_with (at_builtin; refine wpList_i64 _ rfl _ _ rfl w9.heap.size _ j _ rfl (hown.out.alloc _) _ 1 1 [_] rfl (ri_one_atp rfl) (by omega) (by simp <;> omega) ?_; intro G c w3' hown3 hgr hcc)
                              all_goals
                                have hb3 := push_ hbw.out (Nat.le_refl _) hown.out hgr
                                rw [← HSN.out] at hown3
                                have HO3 := Lib.hid hown3
                                clear hown3 hgr
                                go_wp2_with fail
                                go_roundw
                                case rel => exact ⟨j + 1, by omega, by go_num, HO3, hb3, HAL⟩
                                case measure => simp [intOf] <;> omega
                        · obtain rfl : m = j := by omega
                          have ho := hown.out
                          have hoka := hok.out
                          rw [List.take_of_length_le (by rw [HQL.out]; exact Nat.le_refl _)] at ho hoka
                          obtain ⟨GF, cF, rfl⟩ := own_form ho
                          have HOF := Lib.hid (Sl.of_own ho)
                          have hl := HL5.out
                          unfold takeP4 at hl
                          simp only [] at hl
                          rw [if_pos hoka] at hl
                          injection hl with h1 h2; injection h2 with h2 h3
                          subst h1 h2 h3
                          clear ho hown hoka hok y1
                          go_wp2_with fail
                          refine bodyPost_ret (results_tmp3 rfl _ _ _) rfl ?_
                          exact ⟨_, _, _, _, _, _, rfl, HOF.out, HS99.out.below hbw.out, on HB9.out hbw.out⟩
                  · have hl := HL4.out
                    unfold takeP3 at hl
                    rw [if_pos he2] at hl
                    obtain ⟨rfl, rfl, rfl⟩ := badT_eq hl
                    have heb : (e2 != 0) = true := by simp [he2]
                    clear hl
                    go_wp2_with fail
                    refine bodyPost_ret (results_tmp3 rfl _ _ _) rfl ?_
                    exact PTOut.nil HB8.out
                · have hl := HL3.out
                  unfold takeP2b at hl
                  rw [if_pos he1] at hl
                  obtain ⟨rfl, rfl, rfl⟩ := badT_eq hl
                  have heb : (e1 != 0) = true := by simp [he1]
                  clear hl
                  go_wp2_with fail
                  refine bodyPost_ret (results_tmp3 rfl _ _ _) rfl ?_
                  exact PTOut.nil hb6.out
end Go.Proofs.YtmejoococajikaaGreat

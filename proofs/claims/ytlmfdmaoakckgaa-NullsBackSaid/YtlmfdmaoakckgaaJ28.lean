/- Joined texts: Runs. Each has its own head line. No condition beyond those that its theorems state. -/
import Derived.RangeFuncNested
import Derived.RangeFuncBound
import Derived.RangeFuncCalls
import Derived.RangeFuncLeaves
import Derived.OwnWalkIn
import Derived.Deep.CutBlock
import Derived.Deep.DeepCutAuto
import Derived.TacticsInMore
import Derived.LoopNIn
import Derived.LoopIn
import Derived.Test.YtlmfdmaoakckgaaJ26
import Derived.Test.YtlmfdmaoakckgaaJ27
set_option linter.unusedVariables false

/- byterle's iterator over runs. -/
namespace Go.Proofs.Ytlmfdmaoakckgaa
open Go.RowKit
attribute [local go_sem] Oper.semAt_some

def RunsOut (J : List Int → World → Prop) (e : Ending) (W' : World) : Prop := (∃ v, e = .returned v) ∧ J [] W'
/-- The iterator's variable holds what is left. -/
def RunsW (w0 wr : World) (Bn n : Nat) (J : List Int → World → Prop) (rest : List Int) : Prop :=
  ∃ A c, Blk wr Bn 25 #[.slice A rest.length c] ∧ Ri w0 .u8 A rest.length rest ∧ U8 rest ∧ rest.length ≤ c ∧ c ≤ 9223372036854775807 ∧ rest.length ≤ n ∧ J rest wr

theorem runs_rel {w0 V : World} {b o Bn n q c m : Nat} {rest : List Int} {J : List Int → World → Prop} (hri : Ri w0 .u8 (some ⟨b, o, none⟩) q rest) (hu : U8 rest) (hq : q = rest.length) (hc : q ≤ c) (hcm : c ≤ 9223372036854775807) (hln : q ≤ n) (hm : m ≤ q)
    (hb : Blk V Bn 25 #[.slice (some ⟨b, o, none⟩) q c]) (hj : J (rest.drop m) V) (hJs : ∀ rest V v c, J rest V → Blk V Bn 25 c → J rest (V.setCell ⟨Bn, 0, none⟩ v)) :
    Hid (RunsW w0 (V.setCell ⟨Bn, 0, none⟩ (.slice (if c = m then some ⟨b, o, none⟩ else some ⟨b, o + m, none⟩) (q - m) (c - m))) Bn n J (rest.drop m)) := by
  have hl : (rest.drop m).length = q - m := by rw [List.length_drop, hq]
  refine ⟨(if c = m then some ⟨b, o, none⟩ else some ⟨b, o + m, none⟩), c - m, ?_, ?_, hu.drop m, ?_, ?_, ?_, hJs _ _ _ _ hj hb⟩
  · rw [hl]; exact hb.set_ 0 _
  · rw [hl]; exact hri.restIf hm hc
  · rw [hl]; omega
  · omega
  · rw [hl]; omega

set_option maxRecDepth 100000 in
set_option maxHeartbeats 2000000 in
theorem runs1_any (w0 W : World) (l Bn n N : Nat) (lst : List Int) (J : List Int → World → Prop)
    (hJb : ∀ rest V, J rest V → Below w0.heap.size w0 V)
    (hJd : ∀ rest V m, J rest V → J rest (V.drewN m))
    (hJs : ∀ rest V v c, J rest V → Blk V Bn 25 c → J rest (V.setCell ⟨Bn, 0, none⟩ v))
    (hY : ∀ rest V c, J rest V → 0 < rest.length → U8 rest → Blk V Bn 25 c → YieldAt Fence.wide N Try.prog l #[.int .u8 (rest.getD 0 0), .int .i64 (runN rest)] V fun e V' => e = .returned (.bool true) ∧ J (rest.drop (runN rest)) V' ∧ Blk V' Bn 25 c)
    (h : RunsW w0 W Bn n J lst) :
    Calls Try.prog 77 #[.func (.yield l) #[] #[], .pointer (some ⟨Bn, 0, none⟩)] W (RunsOut J) := by
  have H := Lib.hid h; have HJB := Lib.hid hJb; have HJD := Lib.hid hJd; have HJS := Lib.hid hJs; have HY := Lib.hid hY
  clear h hJb hJd hJs hY
  go_enter Try.func77, Try.ntmps77
  go_wp2_with fail
  go_loopw [3] (fun _ wr => ∃ rest : List Int, Hid (RunsW w0 wr Bn n J rest)) (fun _ wr => lenAt wr Bn)
  case atStart => exact ⟨lst, H⟩
  case round =>
    obtain ⟨rest, hr⟩ := hrel
    obtain ⟨A, c, hb, hri, hu, hc, hcm, hln, hj⟩ := hr.out
    obtain ⟨q, hq⟩ : ∃ q, q = rest.length := ⟨_, rfl⟩
    rw [← hq] at hb hri hc hln
    have c1 : wr.cell? ⟨Bn, 0, none⟩ = some (.slice A q c) := hb.cell 0
    have HB := Lib.hid hb; have HRI := Lib.hid hri; have HU := Lib.hid hu; have HJ := Lib.hid hj; have HQ := Lib.hid hq
    clear hb hri hu hj hq hr
    rcases Nat.eq_zero_or_pos q with h0 | h0
    · subst h0
      have hnil : rest = [] := List.eq_nil_of_length_eq_zero HQ.out.symm
      go_wp2_with fail
      go_end0
      exact ⟨⟨_, rfl⟩, by rw [← hnil]; exact HJ.out⟩
    · obtain ⟨b, o, hA, hbl, hcell⟩ := HRI.out.all h0
      subst hA
      have hbe := HJB.out _ _ HJ.out
      have hx0 := getD_u8 HU.out 0
      have g0 := (hbe.cell (p := ⟨b, o + 0, none⟩) hbl).trans (hcell 0 h0)
      rw [Nat.add_zero] at g0
      obtain ⟨x0, hx0e⟩ : ∃ x0, x0 = rest.getD 0 0 := ⟨_, rfl⟩
      rw [← hx0e] at g0 hx0
      have HX0 := Lib.hid hx0e; clear hx0e
      have HBE := Lib.hid hbe; have HC := Lib.hid hcell
      clear hbe hcell
      go_wp2_with fail
      go_loopw [3] (fun i wi => ∃ m : Nat, 1 ≤ m ∧ m ≤ 130 ∧ m ≤ q ∧ i = .int .i64 m ∧ Hid (∀ j, j < m → rest.getD j 0 = rest.getD 0 0) ∧ Hid (∃ nq, wi = wr.drewN nq)) (fun i _ => 130 - (intOf i).toNat)
      case atStart =>
        refine ⟨1, by omega, by omega, by omega, rfl, Lib.hid fun j hj => ?_, Lib.hid ⟨0, rfl⟩⟩
        rw [show j = 0 from by omega]
      case round =>
        obtain ⟨m, hm1, hm2, hm3, rfl, hall, hnq⟩ := hrel
        obtain ⟨n1, rfl⟩ := hnq.out
        have HQc := HQ.out
        by_cases hgo : m < q ∧ m < 130 ∧ rest.getD m 0 = rest.getD 0 0
        · obtain ⟨hlt, h130, heq⟩ := hgo
          have hb1 : decide (m < q) = true := decide_eq_true (by omega)
          have hb2 : decide ((m : Int) < 130) = true := decide_eq_true (by omega)
          have g1 := (HBE.out.cell (p := ⟨b, o + m, none⟩) hbl).trans (HC.out m hlt)
          have hnew : Hid (∀ j, j < m + 1 → rest.getD j 0 = rest.getD 0 0) := by
            intro j hj
            rcases Nat.lt_or_ge j m with h | h
            · exact hall.out j h
            · rw [show j = m from by omega]; exact heq
          rw [heq, ← HX0.out] at g1
          clear heq hall HQc
          have hb3 : (x0 == x0) = true := by simp
          go_wp2_with fail
          go_quiet (fail)
          go_wp2_with fail
          go_roundw
          case rel => exact ⟨m + 1, by omega, by omega, by omega, by go_num, hnew, _, rfl⟩
          case measure => simp [intOf] <;> omega
        · have hrun := runN_eq rest m hm1 hm2 (by omega) hall.out (by
            by_cases h1 : m = 130
            · exact .inl h1
            · by_cases h2 : m = rest.length
              · exact .inr (.inl h2)
              · exact .inr (.inr (fun h3 => hgo ⟨by omega, by omega, h3⟩)))
          have hcases : (q ≤ m) ∨ (m < q ∧ 130 ≤ m) ∨ (m < q ∧ m < 130 ∧ Hid (rest.getD m 0 ≠ rest.getD 0 0)) := by
            rcases Nat.lt_or_ge m q with h1 | h1
            · rcases Nat.lt_or_ge m 130 with h2 | h2
              · exact .inr (.inr ⟨h1, h2, fun h3 => hgo ⟨h1, h2, h3⟩⟩)
              · exact .inr (.inl ⟨h1, h2⟩)
            · exact .inl h1
          have HRUN := Lib.hid hrun
          clear hgo hrun HQc
          rcases hcases with h1 | ⟨h1, h2⟩ | ⟨h1, h2, h3⟩
          · have hb1 : decide (m < q) = false := decide_eq_false (by omega)
            go_wp2_with fail
            go_quiet (fail)
            go_upto_region 4 with (fail)
            rw [World.drewN_drewN]
            have hround := HY.out rest (wr.drewN (n1 + nq)) _ (HJD.out _ _ _ HJ.out) (by rw [← HQ.out]; exact h0) HU.out (HB.out.drewN _)
            rw [HRUN.out, ← HX0.out] at hround
            obtain ⟨fn, tmps, assign, body, hy, hR⟩ := hround
            have HRR := tuck hR; clear hR
            refine (wpIn_wide (n := N + 1)).1 ?_
            gi_wp2
            refine (untuck HRR).mono ?_; rintro e V' ⟨rfl, hj2, hb2⟩
            have c3 : V'.cell? ⟨Bn, 0, none⟩ = some (.slice (some ⟨b, o, none⟩) q c) := hb2.cell 0
            have f3 := hb2.frozen 0
            have HJ2 := Lib.hid hj2; have HB2 := Lib.hid hb2
            have hm4 : (m : Int) ≤ c := by omega
            clear hj2 hb2 hy HRR
            gi_wp2
            go_wp2_with fail
            have hrel := runs_rel HRI.out HU.out HQ.out hc hcm hln hm3 HB2.out HJ2.out HJS.out
            rw [show q - m = 0 from by omega] at hrel
            go_roundw
            case rel => exact ⟨_, hrel⟩
            case measure =>
              rw [lenAt_of HB.out, lenAt_of (HB2.out.set_ 0 _)]
              omega
          · have hb1 : decide (m < q) = true := decide_eq_true (by omega)
            have hb2 : decide ((m : Int) < 130) = false := decide_eq_false (by omega)
            go_wp2_with fail
            go_quiet (fail)
            go_upto_region 4 with (fail)
            rw [World.drewN_drewN]
            have hround := HY.out rest (wr.drewN (n1 + nq)) _ (HJD.out _ _ _ HJ.out) (by rw [← HQ.out]; exact h0) HU.out (HB.out.drewN _)
            rw [HRUN.out, ← HX0.out] at hround
            obtain ⟨fn, tmps, assign, body, hy, hR⟩ := hround
            have HRR := tuck hR; clear hR
            refine (wpIn_wide (n := N + 1)).1 ?_
            gi_wp2
            refine (untuck HRR).mono ?_; rintro e V' ⟨rfl, hj2, hb2⟩
            have c3 : V'.cell? ⟨Bn, 0, none⟩ = some (.slice (some ⟨b, o, none⟩) q c) := hb2.cell 0
            have f3 := hb2.frozen 0
            have HJ2 := Lib.hid hj2; have HB2 := Lib.hid hb2
            have hm4 : (m : Int) ≤ c := by omega
            clear hj2 hb2 hy HRR
            gi_wp2
            go_wp2_with fail
            have hrel := runs_rel HRI.out HU.out HQ.out hc hcm hln hm3 HB2.out HJ2.out HJS.out
            rw [if_neg (by omega)] at hrel
            go_roundw
            case rel => exact ⟨_, hrel⟩
            case measure =>
              rw [lenAt_of HB.out, lenAt_of (HB2.out.set_ 0 _)]
              omega
          · have hb1 : decide (m < q) = true := decide_eq_true (by omega)
            have hb2 : decide ((m : Int) < 130) = true := decide_eq_true (by omega)
            have hx1 := getD_u8 HU.out m
            obtain ⟨y0, hy0⟩ : ∃ y0, y0 = rest.getD m 0 := ⟨_, rfl⟩
            have g1 := (HBE.out.cell (p := ⟨b, o + m, none⟩) hbl).trans (HC.out m h1)
            rw [← hy0] at g1 hx1
            have hb3 : (y0 == x0) = false := by rw [beq_eq_false_iff_ne, hy0, HX0.out]; exact h3.out
            clear hy0
            go_wp2_with fail
            go_quiet (fail)
            go_upto_region 4 with (fail)
            rw [World.drewN_drewN]
            have hround := HY.out rest (wr.drewN (n1 + nq)) _ (HJD.out _ _ _ HJ.out) (by rw [← HQ.out]; exact h0) HU.out (HB.out.drewN _)
            rw [HRUN.out, ← HX0.out] at hround
            obtain ⟨fn, tmps, assign, body, hy, hR⟩ := hround
            have HRR := tuck hR; clear hR
            refine (wpIn_wide (n := N + 1)).1 ?_
            gi_wp2
            refine (untuck HRR).mono ?_; rintro e V' ⟨rfl, hj2, hb2⟩
            have c3 : V'.cell? ⟨Bn, 0, none⟩ = some (.slice (some ⟨b, o, none⟩) q c) := hb2.cell 0
            have f3 := hb2.frozen 0
            have HJ2 := Lib.hid hj2; have HB2 := Lib.hid hb2
            have hm4 : (m : Int) ≤ c := by omega
            clear hj2 hb2 hy HRR
            gi_wp2
            go_wp2_with fail
            have hrel := runs_rel HRI.out HU.out HQ.out hc hcm hln hm3 HB2.out HJ2.out HJS.out
            rw [if_neg (by omega)] at hrel
            go_roundw
            case rel => exact ⟨_, hrel⟩
            case measure =>
              rw [lenAt_of HB.out, lenAt_of (HB2.out.set_ 0 _)]
              omega
end Go.Proofs.Ytlmfdmaoakckgaa

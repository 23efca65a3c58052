/- Joined texts: Concat3, VarPut. Each has its own head line. No condition beyond those that its theorems state. -/
import Derived.Test.YtmejoococajikaaJ17
import Derived.Test.YtmejoococajikaaJ18
import Derived.Test.YtmejoococajikaaJ06
import Derived.Test.YtmejoococajikaaJ20
set_option linter.unusedVariables false

/- slices.Concat of 3 slices of bytes. -/
namespace Go.Proofs.Ytmejoococajikaa
open Go.RowKit

set_option maxRecDepth 100000 in
set_option maxHeartbeats 2000000 in
theorem Concat3_any (w : World) (b : Nat) (A0 : Option Addr) (n0 c0 : Nat) (l0 : List Int) (A1 : Option Addr) (n1 c1 : Nat) (l1 : List Int) (A2 : Option Addr) (n2 c2 : Nat) (l2 : List Int)
    (hb : Blk w b 49 #[.slice A0 n0 c0, .slice A1 n1 c1, .slice A2 n2 c2]) (h0 : Ri w .u8 A0 n0 l0) (h1 : Ri w .u8 A1 n1 l1) (h2 : Ri w .u8 A2 n2 l2) (m0 : n0 ≤ 1000000) (m1 : n1 ≤ 1000000) (m2 : n2 ≤ 1000000) :
    Calls Try.prog 50 #[.slice (some ⟨b, 0, none⟩) 3 3] w (BytesOut w (l0 ++ l1 ++ l2)) := by
  have H0 := Lib.hid h0
  have H1 := Lib.hid h1
  have H2 := Lib.hid h2
  have hlt := hb.lt
  have g0 : w.cell? ⟨b, 0, none⟩ = some (.slice A0 n0 c0) := (hb.cell 0).trans rfl
  have g1 : w.cell? ⟨b, 1, none⟩ = some (.slice A1 n1 c1) := (hb.cell 1).trans rfl
  have g2 : w.cell? ⟨b, 2, none⟩ = some (.slice A2 n2 c2) := (hb.cell 2).trans rfl
  clear h0 h1 h2
  go_enter Try.func50, Try.ntmps50
  go_wp2_with fail
  refine wp_loop_rounds 4 ?_
  rw [rounds_succ]
  go_wp2_with fail
  rw [rounds_succ]
  go_wp2_with fail
  rw [rounds_succ]
  go_wp2_with fail
  rw [rounds_succ]
  go_wp2_with fail
  have hG := Grow_any w (n0 + n1 + n2) (by omega)
  simp only [Int.natCast_add] at hG
  refine hG.mono ?_; rintro e w1 ⟨G, c, rfl, hc, hown, hb1⟩
  clear hG g0 g1 g2
  have hq0 := (Blk.below_ hb hb1)
  have g0 : w1.cell? ⟨b, 0, none⟩ = some (.slice A0 n0 c0) := (hq0.cell 0).trans rfl
  have g1 : w1.cell? ⟨b, 1, none⟩ = some (.slice A1 n1 c1) := (hq0.cell 1).trans rfl
  have g2 : w1.cell? ⟨b, 2, none⟩ = some (.slice A2 n2 c2) := (hq0.cell 2).trans rfl
  go_wp2_with fail
  refine wp_loop_rounds 4 ?_
  rw [rounds_succ]
  go_wp2_with (at_builtin; refine wpList_u8 _ rfl (.tmp 31) (.tmp 32) rfl w.heap.size _ (0) ([]) rfl hown.out _ _ _ l0 rfl (H0.out.below hb1) (by omega) hb1.size ?_; intro G2 e2 w2 hown2 hgr2 _)
  rw [Nat.zero_add, List.nil_append] at hown2
  have hb2 := push0 hb1 (Nat.le_refl _) hown.out hgr2
  have HO2 := Lib.hid hown2
  clear g0 g1 g2
  have hq2 := (Blk.below_ hb hb2)
  have g0 : w2.cell? ⟨b, 0, none⟩ = some (.slice A0 n0 c0) := (hq2.cell 0).trans rfl
  have g1 : w2.cell? ⟨b, 1, none⟩ = some (.slice A1 n1 c1) := (hq2.cell 1).trans rfl
  have g2 : w2.cell? ⟨b, 2, none⟩ = some (.slice A2 n2 c2) := (hq2.cell 2).trans rfl
  clear hown2 hgr2
  go_wp2_with fail
  rw [rounds_succ]
  go_wp2_with (at_builtin; refine wpList_u8 _ rfl (.tmp 31) (.tmp 32) rfl w.heap.size _ (n0) (l0) rfl HO2.out _ _ _ l1 rfl (H1.out.below hb2) (by omega) hb2.size ?_; intro G3 e3 w3 hown3 hgr3 _)
  have hb3 := push0 hb2 (Nat.le_refl _) HO2.out hgr3
  have HO3 := Lib.hid hown3
  clear g0 g1 g2
  have hq3 := (Blk.below_ hb hb3)
  have g0 : w3.cell? ⟨b, 0, none⟩ = some (.slice A0 n0 c0) := (hq3.cell 0).trans rfl
  have g1 : w3.cell? ⟨b, 1, none⟩ = some (.slice A1 n1 c1) := (hq3.cell 1).trans rfl
  have g2 : w3.cell? ⟨b, 2, none⟩ = some (.slice A2 n2 c2) := (hq3.cell 2).trans rfl
  clear hown3 hgr3
  go_wp2_with fail
  rw [rounds_succ]
  go_wp2_with (at_builtin; refine wpList_u8 _ rfl (.tmp 31) (.tmp 32) rfl w.heap.size _ (n0 + n1) (l0 ++ l1) rfl HO3.out _ _ _ l2 rfl (H2.out.below hb3) (by omega) hb3.size ?_; intro G4 e4 w4 hown4 hgr4 _)
  have hb4 := push0 hb3 (Nat.le_refl _) HO3.out hgr4
  have HO4 := Lib.hid hown4
  clear g0 g1 g2
  have hq4 := (Blk.below_ hb hb4)
  have g0 : w4.cell? ⟨b, 0, none⟩ = some (.slice A0 n0 c0) := (hq4.cell 0).trans rfl
  have g1 : w4.cell? ⟨b, 1, none⟩ = some (.slice A1 n1 c1) := (hq4.cell 1).trans rfl
  have g2 : w4.cell? ⟨b, 2, none⟩ = some (.slice A2 n2 c2) := (hq4.cell 2).trans rfl
  clear hown4 hgr4
  go_wp2_with fail
  rw [rounds_succ]
  go_wp2_with fail
  go_ret
  exact ⟨_, _, _, rfl, Sl.of_own HO4.out, hb4⟩
end Go.Proofs.Ytmejoococajikaa

/- varint.Put and its reference; PutInt. -/
namespace Go.Proofs.Ytmejoococajikaa
open Go.RowKit

theorem or_128 : ∀ c : Nat, c < 256 → bits .or .u8 (c : Int) 128 = ((c % 128 + 128 : Nat) : Int) := by decide +kernel
theorem vput_step (f y : Nat) (h : 128 ≤ y) (hy : y < 2 ^ (7 * f + 1)) : ∃ g, f = g + 1 ∧ vputF f y = ((y % 128 + 128 : Nat) : Int) :: vputF g (y / 128) ∧ y / 128 < 2 ^ (7 * g + 1) := by
  cases f with
  | zero => simp at hy; omega
  | succ g =>
    refine ⟨g, rfl, ?_, ?_⟩
    · simp only [vputF]; rw [if_neg (by omega)]
    · rw [Nat.div_lt_iff_lt_mul (by omega), show (128 : Nat) = 2 ^ 7 from rfl, ← Nat.pow_add]
      rwa [show 7 * g + 1 + 7 = 7 * (g + 1) + 1 from by omega]
theorem vput_end (f y : Nat) (h : y < 128) : vputF f y = [(y : Int)] := by
  cases f with
  | zero => rfl
  | succ g => simp only [vputF]; rw [if_pos h]
theorem Ri_lit1 (w : World) (x : Int) (t : TypeId) : Ri (w.alloc (.cells #[.int .u8 x] t)) .u8 (some ⟨w.heap.size, 0, none⟩) 1 [x] := Rd.one _ _ _
theorem blk_at {w : World} {t : TypeId} {cs : Array Value} {g : Nat} (h : g = w.heap.size) : Blk (w.alloc (.cells cs t)) g t cs := by subst h; exact Blk.new _ _ _
/-- Between two rounds. -/
def VPutW (w wr : World) (f y k X : Nat) (pre : List Int) (v : Value) : Prop :=
  ∃ acc : List Int, acc.length = k ∧ pre ++ vput X = acc ++ vputF f y ∧ wr.ownsRow w.heap.size 5 1 v k (acc.map (Value.int .u8)) ∧ Below w.heap.size w wr

set_option maxRecDepth 100000 in
set_option maxHeartbeats 1000000 in
theorem VPut_any (w : World) (A : Option Addr) (n cap : Nat) (b : List Int) (hr : Ri w .u8 A n b) (hn : n ≤ 100000) (X : Nat) (hX : X < 18446744073709551616) :
    Calls Try.prog 73 #[.slice A n cap, .int .u64 X] w (BytesOut w (b ++ vput X)) := by
  have HR := Lib.hid hr; clear hr
  have H0 : Hid (VPutW w w 9 X 0 X [] (.slice none 0 0)) := ⟨[], rfl, rfl, ⟨by simp, .inl ⟨rfl, rfl⟩⟩, Below.refl _ _⟩
  go_enter Try.func73, Try.ntmps73
  go_wp2_with fail
  go_loopw [1, 5] (fun a v wr => ∃ f y k : Nat, a = .int .u64 y ∧ y < 18446744073709551616 ∧ f + k = 9 ∧ y < 2 ^ (7 * f + 1) ∧ Hid (VPutW w wr f y k X [] v)) (fun a _ _ => (intOf a).toNat)
  case atStart => exact ⟨9, X, 0, rfl, hX, rfl, hX, H0⟩
  case round =>
    obtain ⟨f, y, k, rfl, hy, hfk, hyf, hin⟩ := hrel
    by_cases hlt : 128 ≤ y
    · obtain ⟨g, rfl, hv, hyg⟩ := vput_step f y hlt hyf
      have hor := Lib.hid (or_128 (y % 256) (by omega))
      have HV := Lib.hid hv
      obtain ⟨acc, ha1, ha2, ho, hb⟩ := hin.out
      have HO := Lib.hid ho; have HB := Lib.hid hb; have HA := Lib.hid ha2; have HA1 := Lib.hid ha1
      have hz := hb.size
      clear hv ho hb ha2 ha1 hin hyf
      go_wp2_with (at_builtin; refine wpList_u8 _ rfl _ _ rfl w.heap.size _ k _ rfl (own_below HO.out ((Below.refl _ _).alloc (Nat.le_refl _) _)) _ 1 1 [_] rfl (Rd.one _ _ _) (by omega) (by simp; omega) ?_; intro G c w2 hown hgr hcc)
      have HOWN := Lib.hid hown; clear hown
      go_wp2_with fail
      go_roundw
      case rel =>
        refine ⟨g, y / 128, k + 1, congrArg _ (by omega), by omega, by omega, hyg, acc ++ [((y % 128 + 128 : Nat) : Int)], by rw [List.length_append, HA1.out]; rfl, ?_, ?_, push_ HB.out (Nat.le_refl _) HO.out hgr⟩
        · rw [HA.out, HV.out]; simp
        · have h := HOWN.out
          have h2 := hor.out
          rw [show (((y % 256 : Nat)) : Int) = (y : Int) % 256 from by omega, show y % 256 % 128 + 128 = y % 128 + 128 from by omega] at h2
          rw [h2] at h
          exact h
      case measure => simp [intOf] <;> omega
    · obtain ⟨acc, ha1, ha2, ho, hb⟩ := hin.out
      rw [vput_end f y (by omega)] at ha2
      obtain ⟨G, c, rfl⟩ := own_form ho
      have HS := Lib.hid (Sl.of_own ho); have HB := Lib.hid hb; have HA := Lib.hid ha2
      clear ho hb ha2 hin hyf ha1
      go_wp2_with fail
      refine (Concat3_any _ _ _ _ _ _ _ _ _ _ _ _ _ _ (blk_at (by simp)) (((HR.out.below HB.out).alloc _).alloc _) ((HS.out.1.alloc _).alloc _) ((Ri_lit1 _ _ _).alloc _) (by omega) (by omega) (by omega)).mono ?_; rintro e w6 ⟨G6, n6, c6, rfl, hs6, hb6⟩
      go_wp2_with fail
      go_ret
      have h := HA.out
      rw [List.nil_append] at h
      rw [h, ← List.append_assoc]
      exact ⟨_, _, _, rfl, hs6, on (on HB.out (((Below.refl _ _).alloc (Nat.le_refl _) _).alloc (by simp) _)) hb6⟩

end Go.Proofs.Ytmejoococajikaa

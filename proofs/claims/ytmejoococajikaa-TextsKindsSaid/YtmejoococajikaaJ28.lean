/- Joined texts: PlainPb. Each has its own head line. No condition beyond those that its theorems state. -/
import Derived.Test.YtmejoococajikaaJ27
import Derived.Test.YtmejoococajikaaJ20
set_option linter.unusedVariables false

/- Patched: what Put answers. -/
namespace Go.Proofs.Ytmejoococajikaa
open Go.RowKit

def kP (l : List Int) (x : Nat) : Nat := (wClosest (pN (prL l x))).toNat
def boP (P : List (Int × Int)) (K : Nat) : List Int := P.map fun q => q.1 * 2 ^ K + q.2
def cP (l : List Int) (x : Nat) : Int := wClosest ((gN (prL l x) : Int) + kP l x)
def prePa (l : List Int) (x : Int) (s : Bool) : Bool :=
  decide (l.length < 1) || decide (512 < l.length) || (!s && l.any fun y => decide (y < 0)) || decide (wCode x < 0) || decide (64 ≤ x)
def okPa (l : List Int) (x : Nat) : Bool := nearL l l.length && fitsPa l x && decide (minL l ≠ -9223372036854775808)
def twoPa (l : List Int) (x : Nat) : List Int :=
  [(32 * ((baseN (minL l) : Int) - 1) + wCode (kP l x)) % 256, (32 * ((gN (prL l x) : Int) - 1) + (prL l x).length) % 256]
/-- What Put answers. -/
def putPa (l : List Int) (x : Int) (s : Bool) : List Int × Int :=
  if prePa l x s || !okPa l x.toNat then ([], 1)
  else (headR 2 (wCode x) l.length ++ twoPa l x.toNat ++ baseR (minL l) ++ (packR (lowL (upL l) x.toNat) x).1 ++ (packR (boP (prL l x.toNat) (kP l x.toNat)) (cP l x.toNat)).1, 0)
theorem boP_snoc (P : List (Int × Int)) (K j : Nat) (h : j < P.length) : boP (P.take (j + 1)) K = boP (P.take j) K ++ [(P.getD j (0, 0)).1 * 2 ^ K + (P.getD j (0, 0)).2] := by
  unfold boP
  rw [List.take_succ_eq_append_getElem h, List.map_append]
  simp [List.getD, List.getElem?_eq_getElem h]
/-- Each pair's numbers have room. -/
def PairsK (P : List (Int × Int)) (g K : Nat) : Prop := ∀ q ∈ P, 0 ≤ q.1 ∧ q.1 < 2 ^ g ∧ 0 ≤ q.2 ∧ q.2 < 2 ^ K
theorem fits_parts {l : List Int} {x : Nat} (h : fitsPa l x = true) : (prL l x).length ≤ 31 ∧ gN (prL l x) + kP l x ≤ 64 ∧ x + kP l x ≤ 64 := by
  unfold fitsPa at h
  simp only [Bool.and_eq_true, decide_eq_true_eq] at h
  have := wClosest_le (pN (prL l x))
  unfold kP
  omega
theorem kP_room {l : List Int} (hu : I64 l) (x : Nat) (hl : l.length ≤ 512) : (kP l x : Int) = wClosest (pN (prL l x)) ∧ pN (prL l x) ≤ kP l x ∧ 1 ≤ kP l x ∧ kP l x ≤ 64 := by
  have h1 := (prL_range hu x hl).gN_le.2
  have h2 := wClosest_room (pN (prL l x)) (by omega) (by omega)
  unfold kP; omega
theorem pairs_room {l : List Int} (hu : I64 l) (x : Nat) (hl : l.length ≤ 512) : PairsK (prL l x) (gN (prL l x)) (kP l x) := by
  intro q hq
  have hr := prL_range hu x hl q hq
  have h1 := mostBits_mem _ q.1 (List.mem_map.2 ⟨q, hq, rfl⟩ : q.1 ∈ (prL l x).map Prod.fst)
  have h2 := mostBits_mem _ q.2 (List.mem_map.2 ⟨q, hq, rfl⟩ : q.2 ∈ (prL l x).map Prod.snd)
  have h3 := kP_room hu x hl
  have h4 : q.1.toNat < 2 ^ gN (prL l x) := Nat.lt_of_lt_of_le (blen_lt _) (Nat.pow_le_pow_right (by omega) (by unfold gN; omega))
  have h5 : q.2.toNat < 2 ^ kP l x := Nat.lt_of_lt_of_le (blen_lt _) (Nat.pow_le_pow_right (by omega) (Nat.le_trans (by unfold pN at h3 ⊢; omega) h3.2.1))
  have e4 : ((2 ^ gN (prL l x) : Nat) : Int) = 2 ^ gN (prL l x) := by simp
  have e5 : ((2 ^ kP l x : Nat) : Int) = 2 ^ kP l x := by simp
  rw [← e4, ← e5]
  omega
theorem both_lt {a b : Int} {g K : Nat} (h : 0 ≤ a ∧ a < 2 ^ g ∧ 0 ≤ b ∧ b < 2 ^ K) : 0 ≤ a * 2 ^ K + b ∧ a * 2 ^ K + b < 2 ^ (g + K) := by
  obtain ⟨h1, h2, h3, h4⟩ := h
  have hk : (0 : Int) < 2 ^ K := Int.pow_pos (by decide)
  have e : (2 : Int) ^ (g + K) = 2 ^ g * 2 ^ K := by rw [Int.pow_add]
  have h5 : 0 ≤ a * 2 ^ K := Int.mul_nonneg h1 (by omega)
  have h6 : (a + 1) * 2 ^ K ≤ 2 ^ g * 2 ^ K := Int.mul_le_mul_of_nonneg_right (by omega) (by omega)
  rw [Int.add_mul, Int.one_mul] at h6
  omega
theorem pow_le64 {m : Nat} (h : m ≤ 64) : (2 : Int) ^ m ≤ 18446744073709551616 := by
  have h1 : 2 ^ m ≤ 2 ^ 64 := Nat.pow_le_pow_right (by omega) h
  have e : ((2 ^ m : Nat) : Int) = 2 ^ m := by simp
  rw [← e]; omega
/-- A gap and a patch as one number: by 'or' of what is shifted. -/
theorem both_or {a b : Int} {g K : Nat} (h : 0 ≤ a ∧ a < 2 ^ g ∧ 0 ≤ b ∧ b < 2 ^ K) (hg : g + K ≤ 64) :
    IntKind.u64.wrap (a * 2 ^ K) = a * 2 ^ K ∧ bits BinOp.or IntKind.u64 (a * 2 ^ K) b = a * 2 ^ K + b ∧ IntKind.u64.wrap (a * 2 ^ K + b) = a * 2 ^ K + b := by
  have h1 := both_lt h
  have h2 := pow_le64 hg
  obtain ⟨ha, _, hb, hb2⟩ := h
  have hk : (0 : Int) < 2 ^ K := Int.pow_pos (by decide)
  have h5 : 0 ≤ a * 2 ^ K := Int.mul_nonneg ha (by omega)
  refine ⟨by rw [IntKind.wrap_u64]; omega, ?_, by rw [IntKind.wrap_u64]; omega⟩
  obtain ⟨a, rfl⟩ := Int.eq_ofNat_of_zero_le ha
  obtain ⟨b, rfl⟩ := Int.eq_ofNat_of_zero_le hb
  have e5 : ((2 ^ K : Nat) : Int) = 2 ^ K := by simp
  rw [← e5] at h1 hb2 h5 ⊢
  rw [← Int.natCast_mul] at h1 ⊢
  have hb3 : b < 2 ^ K := by omega
  rw [u64_or_nat _ _ (by omega) (by omega), Nat.mul_comm a, ← Nat.two_pow_add_eq_or_of_lt hb3 a]
  simp
theorem boP_len (P : List (Int × Int)) (K : Nat) : (boP P K).length = P.length := by simp [boP]
theorem boP_room {P : List (Int × Int)} {g K : Nat} (h : PairsK P g K) (hg : g + K ≤ 64) (c : Nat) (hc : g + K ≤ c) : U64 (boP P K) ∧ (boP P K).all (roomB c) = true := by
  have hq : ∀ y ∈ boP P K, 0 ≤ y ∧ y < 2 ^ (g + K) := by
    intro y hy
    obtain ⟨q, hq, rfl⟩ := List.mem_map.1 hy
    exact both_lt (h q hq)
  have h2 := pow_le64 hg
  refine ⟨fun y hy => by have := hq y hy; omega, List.all_eq_true.2 fun y hy => ?_⟩
  unfold roomB
  refine decide_eq_true (.inr ?_)
  have h1 := hq y hy
  have h3 : 2 ^ (g + K) ≤ 2 ^ c := Nat.pow_le_pow_right (by omega) hc
  have e : ((2 ^ (g + K) : Nat) : Int) = 2 ^ (g + K) := by simp
  rw [← e] at h1
  omega
theorem low_room (u : List Int) (_hu : U64 u) (x : Nat) (hx : x < 64) : U64 (lowL u x) ∧ (lowL u x).all (roomB x) = true ∧ (lowL u x).length = u.length := by
  have e : ((2 ^ x : Nat) : Int) = 2 ^ x := by simp
  have hk : (0 : Int) < 2 ^ x := Int.pow_pos (by decide)
  have h2 := pow_le64 (show x ≤ 64 by omega)
  have hq : ∀ y ∈ lowL u x, 0 ≤ y ∧ y < 2 ^ x := by
    intro y hy
    obtain ⟨q, _, rfl⟩ := List.mem_map.1 hy
    exact ⟨Int.emod_nonneg _ (by omega), Int.emod_lt_of_pos _ hk⟩
  refine ⟨fun y hy => by have := hq y hy; omega, List.all_eq_true.2 fun y hy => ?_, by simp [lowL]⟩
  unfold roomB
  refine decide_eq_true (.inr ?_)
  have h1 := hq y hy
  rw [← e] at h1
  omega
theorem putPa_good {l : List Int} {X : Nat} {s : Bool} {r : List Int} {er : Int} (hu : I64 l) (hn : l.length ≤ 512) (_h1 : 1 ≤ l.length) (hX : X < 64) (hpre : prePa l X s = false) (hnear : nearL l l.length = true) (hfits : fitsPa l X = true)
    (hmin : minL l ≠ -9223372036854775808) (hl : putPa l X s = (r, er)) :
    er = 0 ∧ ∃ K gg C : Nat, ∃ Pl Pb : List Int, kP l X = K ∧ gN (prL l X) = gg ∧ wClosest (pN (prL l X)) = (K : Int) ∧ wClosest ((gg : Int) + K) = (C : Int) ∧ 1 ≤ gg ∧ 1 ≤ K ∧ 0 ≤ wCode (K : Int) ∧ gg + K ≤ 64 ∧ X + K ≤ 64 ∧ gg + K ≤ C ∧ C ≤ 64 ∧ (prL l X).length ≤ 31 ∧
      PairsK (prL l X) gg K ∧ U64 (lowL (upL l) X) ∧ packR (lowL (upL l) X) X = (Pl, 0) ∧ Pl.length ≤ 5000 ∧ U64 (boP (prL l X) K) ∧ packR (boP (prL l X) K) C = (Pb, 0) ∧ Pb.length ≤ 5000 ∧
      headR 2 (wCode X) l.length ++ [(32 * ((baseN (minL l) : Int) - 1) + wCode K) % 256, (32 * ((gg : Int) - 1) + (prL l X).length) % 256] ++ baseR (minL l) ++ Pl ++ Pb = r := by
  unfold putPa at hl
  rw [hpre, Int.toNat_natCast, if_neg (by unfold okPa; rw [hnear, hfits, decide_eq_true hmin]; decide)] at hl
  injection hl with e1 e2
  obtain ⟨hp31, hgk, hxk⟩ := fits_parts hfits
  have hkr := kP_room hu X hn
  have hpk := pairs_room hu X hn
  have hlr := low_room (upL l) (upL_u64 hu) X hX
  obtain ⟨Pl, hpl, hpll⟩ := packR_ok (lowL (upL l) X) X (by omega) (by rw [hlr.2.2, upL_len]; omega) hlr.2.1
  have hcr := wClosest_room ((gN (prL l X) : Int) + kP l X) (by omega) (by omega)
  obtain ⟨C, hC⟩ : ∃ C : Nat, cP l X = (C : Int) := ⟨(cP l X).toNat, by unfold cP; omega⟩
  have hC2 : gN (prL l X) + kP l X ≤ C ∧ C ≤ 64 := by unfold cP at hC; omega
  have hbr := boP_room hpk hgk C hC2.1
  obtain ⟨Pb, hpb, hpbl⟩ := packR_ok (boP (prL l X) (kP l X)) C hC2.2 (by rw [boP_len]; omega) hbr.2
  rw [hpl, hC, hpb] at e1
  rw [hlr.2.2, upL_len] at hpll
  rw [boP_len] at hpbl
  have hg1 : 1 ≤ gN (prL l X) := by unfold gN; omega
  have m1 : l.length * X ≤ 512 * 64 := Nat.mul_le_mul (by omega) (by omega)
  have m2 : (prL l X).length * C ≤ 31 * 64 := Nat.mul_le_mul (by omega) (by omega)
  exact ⟨e2.symm, _, _, C, Pl, Pb, rfl, rfl, hkr.1.symm, hC, hg1, hkr.2.2.1, by rw [hkr.1]; exact (wClosest_room (pN (prL l X)) (by omega) (by omega)).2.2.2.1, hgk, hxk, hC2.1, hC2.2, hp31, hpk, hlr.1, hpl, by omega, hbr.1, hpb, by omega, e1⟩
end Go.Proofs.Ytmejoococajikaa

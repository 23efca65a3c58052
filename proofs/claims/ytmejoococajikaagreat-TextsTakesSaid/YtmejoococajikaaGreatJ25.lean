/- Joined texts: PlainPt, PNum, PPat. Each has its own head line. No condition beyond those that its theorems state. -/
import Derived.Test.YtmejoococajikaaGreatJ18
import Derived.Test.YtmejoococajikaaGreatJ13
import Derived.Test.YtmejoococajikaaGreatJ08
import Derived.Test.YtmejoococajikaaGreatJ19
import Derived.Test.YtmejoococajikaaGreatJ14
set_option linter.unusedVariables false

/- Patched: what Take answers. -/
namespace Go.Proofs.YtmejoococajikaaGreat
open Go.RowKit

def topB (b : List Int) : List Int := (b.getD 0 0 % 128) :: b.drop 1
/-- A base of bytes. -/
def numR (b : List Int) : Int := (stepR 0 (packV (topB b) 8) (decide (128 ≤ b.getD 0 0))).1
def patchStep (K g W : Nat) (low : List Int) (a : Nat) (x : Int) : Option (List Int × Nat) :=
  if ¬ x / 2 ^ K < 2 ^ g ∨ low.length ≤ a + (x / 2 ^ K).toNat ∨ (x % 2 ^ K ≠ 0 ∧ 64 ≤ blen (x % 2 ^ K).toNat + W) then none
  else some (low.set (a + (x / 2 ^ K).toNat) (bits BinOp.xor IntKind.u64 (low.getD (a + (x / 2 ^ K).toNat) 0) (IntKind.u64.wrap (x % 2 ^ K * 2 ^ W))), a + (x / 2 ^ K).toNat)
def patchN (K g W : Nat) (low both : List Int) : Nat → Option (List Int × Nat)
  | 0 => some (low, 0)
  | j + 1 => (patchN K g W low both j).bind fun s => patchStep K g W s.1 s.2 (both.getD j 0)
theorem patchN_none (K g W : Nat) (low both : List Int) (j m : Nat) (h : patchN K g W low both j = none) (hm : j ≤ m) : patchN K g W low both m = none := by
  induction m with
  | zero => obtain rfl : j = 0 := by omega
            exact h
  | succ m ih =>
    rcases Nat.lt_or_ge j (m + 1) with h1 | h1
    · rw [patchN, ih (by omega)]; rfl
    · obtain rfl : j = m + 1 := by omega
      exact h
theorem patchN_succ (K g W : Nat) (low both : List Int) (j : Nat) (l : List Int) (a : Nat) (h : patchN K g W low both j = some (l, a)) : patchN K g W low both (j + 1) = patchStep K g W l a (both.getD j 0) := by rw [patchN, h]; rfl
theorem patchStep_bad {K g W : Nat} {low : List Int} {a : Nat} {x : Int} (h : ¬ x / 2 ^ K < 2 ^ g ∨ low.length ≤ a + (x / 2 ^ K).toNat ∨ (x % 2 ^ K ≠ 0 ∧ 64 ≤ blen (x % 2 ^ K).toNat + W)) : patchStep K g W low a x = none := if_pos h
theorem patchStep_ok {K g W : Nat} {low : List Int} {a : Nat} {x : Int} (h1 : x / 2 ^ K < 2 ^ g) (h2 : a + (x / 2 ^ K).toNat < low.length) (h3 : x % 2 ^ K = 0 ∨ blen (x % 2 ^ K).toNat + W < 64) :
    patchStep K g W low a x = some (low.set (a + (x / 2 ^ K).toNat) (bits BinOp.xor IntKind.u64 (low.getD (a + (x / 2 ^ K).toNat) 0) (IntKind.u64.wrap (x % 2 ^ K * 2 ^ W))), a + (x / 2 ^ K).toNat) := if_neg (by
  rintro (h | h | ⟨h, h'⟩)
  · exact h h1
  · omega
  · rcases h3 with h4 | h4
    · exact h h4
    · omega)
theorem patchN_bad {K g W : Nat} {low both : List Int} {j m : Nat} {l : List Int} {a : Nat} (h : patchN K g W low both j = some (l, a)) (hj : j < m) (hb : patchStep K g W l a (both.getD j 0) = none) : patchN K g W low both m = none :=
  patchN_none K g W low both (j + 1) m (by rw [patchN_succ K g W low both j l a h]; exact hb) hj
/-- Numbers above a base; false: one is none, or is below 0 and may not be. -/
def sumOk (B : Int) (s : Bool) (u : Int) : Bool := (stepR B u false).2 && (s || decide (0 ≤ (stepR B u false).1))
def sumL (B : Int) (low : List Int) : List Int := low.map fun u => (stepR B u false).1
theorem bits_u64_range (a b : Int) : 0 ≤ bits BinOp.xor IntKind.u64 a b ∧ bits BinOp.xor IntKind.u64 a b < 18446744073709551616 := by
  show 0 ≤ IntKind.u64.wrap _ ∧ IntKind.u64.wrap _ < 18446744073709551616
  rw [IntKind.wrap_u64]; omega
theorem patchN_u64 (K g W : Nat) (low both : List Int) (h : U64 low) (j : Nat) : ∀ s, patchN K g W low both j = some s → U64 s.1 ∧ s.1.length = low.length := by
  induction j with
  | zero => intro s hs; rw [patchN] at hs; injection hs with hs; subst hs; exact ⟨h, rfl⟩
  | succ j ih =>
    intro s hs
    rw [patchN] at hs
    cases hp : patchN K g W low both j with
    | none => rw [hp] at hs; cases hs
    | some q =>
      rw [hp] at hs
      obtain ⟨h1, h2⟩ := ih q hp
      have hs : patchStep K g W q.1 q.2 (both.getD j 0) = some s := hs
      unfold patchStep at hs
      split at hs
      · cases hs
      · injection hs with hs
        subst hs
        refine ⟨fun y hy => ?_, by rw [List.length_set]; exact h2⟩
        rcases List.mem_or_eq_of_mem_set hy with h3 | h3
        · exact h1 y h3
        · rw [h3]; exact bits_u64_range _ _
def badT : List Int × List Int × Int := ([], [], 2)
def takeP4 (B : Int) (s : Bool) (o : Option (List Int × Nat)) (r : List Int) : List Int × List Int × Int :=
  match o with
  | none => badT
  | some q => if q.1.all (sumOk B s) then (sumL B q.1, r, 0) else badT
def takeP3 (B : Int) (s : Bool) (K g W : Nat) (sm : Int) (low : List Int) (u2 : List Int × List Int × Int) : List Int × List Int × Int :=
  if u2.2.2 ≠ 0 then badT else takeP4 B s (patchN K g W low u2.1 sm.toNat) u2.2.1
def takeP2b (B : Int) (s : Bool) (K g W : Nat) (sm : Int) (u1 : List Int × List Int × Int) : List Int × List Int × Int :=
  if u1.2.2 ≠ 0 then badT else takeP3 B s K g W sm u1.1 (unpackR u1.2.1 sm (wClosest ((g : Int) + K)))
def takeP2 (r : List Int) (s : Bool) (nn K g W : Nat) (many sm : Int) : List Int × List Int × Int :=
  if 64 < g + K ∨ r.length < nn then badT else takeP2b (numR (r.take nn)) s K g W sm (unpackR (r.drop nn) many W)
/-- What Take answers. -/
def takePa (b : List Int) (s : Bool) : List Int × List Int × Int :=
  if b.length < 2 ∨ (lookR b).1 ≠ 2 ∨ b.length < 4 then badT
  else takeP2 (b.drop 4) s (b.getD 2 0 / 32 + 1).toNat (wOf (b.getD 2 0 % 32)).toNat (b.getD 3 0 / 32 + 1).toNat (wOf (lookR b).2.1).toNat (lookR b).2.2.1 (b.getD 3 0 % 32)
end Go.Proofs.YtmejoococajikaaGreat

/- patched.number. -/
namespace Go.Proofs.YtmejoococajikaaGreat
open Go.RowKit

theorem byte_hi (y : Int) (h0 : 0 ≤ y) (h : y < 256) : bits BinOp.andNot IntKind.u8 y 128 = y % 128 ∧ (bits BinOp.and IntKind.u8 y 128 != 0) = decide (128 ≤ y) := by
  have : ∀ i : Fin 256, bits BinOp.andNot IntKind.u8 ((i.val : Nat) : Int) 128 = ((i.val : Nat) : Int) % 128 ∧ (bits BinOp.and IntKind.u8 ((i.val : Nat) : Int) 128 != 0) = decide (128 ≤ ((i.val : Nat) : Int)) := by decide +kernel
  have h := this ⟨y.toNat, by omega⟩
  rwa [show (((⟨y.toNat, by omega⟩ : Fin 256).val : Nat) : Int) = y from by simp; omega] at h
theorem topB_u8 {b : List Int} (h : U8 b) : U8 (topB b) := by
  intro y hy
  rcases List.mem_cons.1 hy with rfl | hy
  · have := getD_byte h 0; omega
  · exact h y (List.mem_of_mem_drop hy)
theorem topB_len {b : List Int} (h : 1 ≤ b.length) : (topB b).length = b.length := by
  unfold topB; rw [List.length_cons, List.length_drop]; omega
theorem topB_at {b : List Int} {j : Nat} (_h : j + 1 < b.length) : (topB b).getD (j + 1) 0 = b.getD (j + 1) 0 := by
  unfold topB; simp [List.getD]
/-- How great the first bytes are: the highest bit is 0. -/
theorem top_lt {b : List Int} (hu : U8 b) (j : Nat) : packV ((topB b).take (j + 1)) 8 < 2 ^ (8 * j + 7) := by
  induction j with
  | zero =>
    have h := getD_byte hu 0
    have e : (topB b).take (0 + 1) = [b.getD 0 0 % 128] := by simp [topB]
    rw [e]
    simp only [packV, List.foldl_cons, List.foldl_nil]
    omega
  | succ j ih =>
    rcases Nat.lt_or_ge (j + 1) (topB b).length with h1 | h1
    · rw [take_snoc _ _ h1, packV_snoc]
      have h2 := topB_u8 hu _ (getD_mem _ _ h1)
      have e : 2 ^ (8 * (j + 1) + 7) = 2 ^ (8 * j + 7) * 2 ^ 8 := by rw [← Nat.pow_add, show 8 * (j + 1) + 7 = 8 * j + 7 + 8 from by omega]
      rw [e]
      omega
    · rw [List.take_of_length_le (by omega)]
      rw [List.take_of_length_le (by omega)] at ih
      exact Nat.lt_of_lt_of_le ih (Nat.pow_le_pow_right (by omega) (by omega))

set_option maxRecDepth 100000 in
set_option maxHeartbeats 2000000 in
theorem number10_any (w : World) (A : Option Addr) (n cap : Nat) (b : List Int) (hr : Ri w .u8 A n b) (hu : U8 b) (hc : n ≤ cap) (hm : cap ≤ 9223372036854775807) (h1 : 1 ≤ n) (h8 : n ≤ 8) :
    Calls Tryz.prog 164 #[.slice A n cap] w fun e w' => e = .returned (.int .i64 (numR b)) ∧ w = w' := by
  have HN := Lib.hid hr.len
  obtain ⟨bb, oo, rfl, hbl, hcells⟩ := hr.all (by omega)
  have HC := Lib.hid hcells
  have c0 := hcells 0 (by omega)
  rw [Nat.add_zero] at c0
  have hy := getD_byte hu 0
  have hb := byte_hi _ hy.1 hy.2
  have htl := top_lt hu
  have HTL := Lib.hid htl
  have HU := Lib.hid hu
  have htk : packV ((topB b).take 1) 8 = (b.getD 0 0 % 128).toNat := by
    have e : (topB b).take 1 = [b.getD 0 0 % 128] := by simp [topB]
    rw [e]; simp [packV]
  have hnum : numR b = (stepR 0 (packV (topB b) 8) (decide (128 ≤ b.getD 0 0))).1 := rfl
  have HNUM := Lib.hid hnum
  obtain ⟨y0, hy0⟩ : ∃ y, y = b.getD 0 0 := ⟨_, rfl⟩
  rw [← hy0] at c0 hy hb htk
  have HY0 := Lib.hid hy0; have HTK := Lib.hid htk
  obtain ⟨hb1, hb2⟩ := hb
  obtain ⟨hy1, hy2⟩ := hy
  clear hr hcells htl hu hnum hy0 htk
  have hcap1 : 1 ≤ cap := by omega
  go_enter Tryz.func164, Tryz.ntmps164
  go_wp2_with fail
  all_goals
    go_loopw [3, 16] (fun v i wr => ∃ (j : Nat) (z : Nat), j + 1 ≤ n ∧ i = .int .i64 j ∧ v = .int .u64 z ∧ z < 2 ^ 63 ∧ Hid (z = packV ((topB b).take (j + 1)) 8) ∧ Hid (wr = w)) (fun _ i _ => n - (intOf i).toNat)
    case atStart =>
      refine ⟨0, (y0 % 128).toNat, h1, rfl, by congr 1; omega, by omega, Lib.hid HTK.out.symm, Lib.hid rfl⟩
    case round =>
      obtain ⟨j, z, hj, rfl, rfl, hz63, hz, hw⟩ := hrel
      obtain rfl := hw.out
      by_cases hlt : j + 1 < n
      · have g1 := HC.out (j + 1) hlt
        rw [show oo + (j + 1) = oo + 1 + j from by omega] at g1
        have hyr := HU.out _ (getD_mem b (j + 1) (by rw [HN.out]; exact hlt))
        have hsn := take_snoc (topB b) (j + 1) (by rw [topB_len (by rw [HN.out]; omega), HN.out]; exact hlt)
        rw [topB_at (by rw [HN.out]; exact hlt)] at hsn
        have hpv := packV_snoc ((topB b).take (j + 1)) 8 (b.getD (j + 1) 0)
        rw [← hsn, ← hz.out] at hpv
        have hnext := HTL.out (j + 1)
        rw [hpv] at hnext
        have hzz := HTL.out j
        rw [← hz.out] at hzz
        have hor := both_or (a := (z : Int)) (b := b.getD (j + 1) 0) (g := 8 * j + 7) (K := 8) ⟨by omega, by
          have e : ((2 ^ (8 * j + 7) : Nat) : Int) = 2 ^ (8 * j + 7) := by simp
          rw [← e]; omega, hyr.1, by simpa using hyr.2⟩ (by omega)
        have hz55 : z < 2 ^ 55 := Nat.lt_of_lt_of_le hzz (Nat.pow_le_pow_right (by omega) (by omega))
        obtain ⟨y, hy⟩ : ∃ y, y = b.getD (j + 1) 0 := ⟨_, rfl⟩
        rw [← hy] at g1 hyr hor hpv
        rw [show (2 : Int) ^ 8 = 256 from by decide] at hor
        have HPV := Lib.hid hpv
        obtain ⟨hyr1, hyr2⟩ := hyr
        have hor2 := hor.2.1
        clear hsn hpv hnext hzz hor hy c0 hb1 hb2
        go_wp2_with fail
        all_goals
          go_roundw
          case rel => exact ⟨j + 1, z * 256 + y.toNat, by omega, by go_num, by congr 1; omega, by omega, Lib.hid (by rw [HPV.out]), Lib.hid trivial⟩
          case measure => simp [intOf] <;> omega
      · obtain rfl : n = j + 1 := by omega
        have hfull := hz.out
        rw [List.take_of_length_le (by rw [topB_len (by rw [HN.out]; omega), HN.out]; exact Nat.le_refl _)] at hfull
        obtain ⟨f, hf⟩ : ∃ f, f = decide (128 ≤ y0) := ⟨_, rfl⟩
        rw [← hf] at hb2
        obtain ⟨xx, ok, hst⟩ : ∃ xx ok, stepR 0 (z : Int) f = (xx, ok) := ⟨_, _, rfl⟩
        have hres : numR b = xx := by rw [HNUM.out, ← hfull, ← HY0.out, ← hf, hst]
        have HRES := Lib.hid hres; have HST := Lib.hid hst
        clear hfull hf hst hres hb1
        go_wp2_with fail
        refine (Step_any _ 0 (z : Int) f (by unfold I64x; omega) (by omega) xx ok HST.out).mono ?_; rintro e w' ⟨rfl, rfl⟩
        go_wp2_with fail
        go_ret
        exact ⟨by rw [HRES.out]; rfl, rfl⟩
end Go.Proofs.YtmejoococajikaaGreat

/- The method patched of patched.run: patches are laid onto numbers. -/
namespace Go.Proofs.YtmejoococajikaaGreat
open Go.RowKit

/-- A row that may be written: block g, from its first cell on; all else is as it was. -/
def LowW (w0 w : World) (g n : Nat) (l : List Int) : Prop :=
  ∃ cur, Blk w g 109 cur ∧ l.length = n ∧ (∀ j, j < n → cur[j]? = some (.int .u64 (l.getD j 0))) ∧ w0.grownBy w (some g)
theorem LowW.cell {w0 w : World} {g n : Nat} {l : List Int} (h : LowW w0 w g n l) {j : Nat} (hj : j < n) : w.cell? ⟨g, j, none⟩ = some (.int .u64 (l.getD j 0)) := by
  obtain ⟨cur, hb, _, hc, _⟩ := h
  rw [hb.cell]; exact hc j hj
theorem LowW.frozen {w0 w : World} {g n : Nat} {l : List Int} (h : LowW w0 w g n l) (j : Nat) : w.frozen? ⟨g, j, none⟩ = false := by
  obtain ⟨cur, hb, _⟩ := h
  exact hb.frozen j
theorem LowW.len {w0 w : World} {g n : Nat} {l : List Int} (h : LowW w0 w g n l) : l.length = n := by obtain ⟨_, _, h, _⟩ := h; exact h
theorem LowW.lt {w0 w : World} {g n : Nat} {l : List Int} (h : LowW w0 w g n l) : g < w.heap.size := by obtain ⟨_, h, _⟩ := h; exact h.lt
theorem LowW.grown {w0 w : World} {g n : Nat} {l : List Int} (h : LowW w0 w g n l) : w0.grownBy w (some g) := by obtain ⟨_, _, _, _, h⟩ := h; exact h
theorem LowW.alloc {w0 w : World} {g n : Nat} {l : List Int} (h : LowW w0 w g n l) (o : Obj) : LowW w0 (w.alloc o) g n l := by
  obtain ⟨cur, hb, hl, hc, hg⟩ := h
  exact ⟨cur, hb.alloc o, hl, hc, hg.trans (World.grownBy_alloc w o _)⟩
theorem LowW.drew {w0 w : World} {g n : Nat} {l : List Int} (h : LowW w0 w g n l) : LowW w0 w.drew g n l := by
  obtain ⟨cur, hb, hl, hc, hg⟩ := h
  exact ⟨cur, hb, hl, hc, ⟨hg.os, hg.tape, hg.output, hg.size, hg.block⟩⟩
theorem LowW.set_ {w0 w : World} {g n : Nat} {l : List Int} (h : LowW w0 w g n l) {i : Nat} (hi : i < n) (x : Int) : LowW w0 (w.setCell ⟨g, i, none⟩ (.int .u64 x)) g n (l.set i x) := by
  obtain ⟨cur, hb, hl, hc, hg⟩ := h
  refine ⟨_, hb.set_ i _, by rw [List.length_set]; exact hl, fun j hj => ?_, hg.trans ⟨rfl, rfl, rfl, by simp [World.setCell], fun k _ hk => Below.heap_setCell w _ _ k (fun e => hk (by rw [e]))⟩⟩
  have hsz : i < cur.size := by
    have := hc i hi
    exact (Array.getElem?_eq_some_iff.1 this).1
  by_cases hij : i = j
  · subst hij
    rw [Array.getElem?_setIfInBounds_self_of_lt hsz, List.getD, List.getElem?_set_self (by rw [hl]; exact hi)]; rfl
  · rw [Array.getElem?_setIfInBounds_ne hij, hc j hj, List.getD, List.getD, List.getElem?_set_ne hij]
theorem LowW.start {w : World} {B n c : Nat} {G : Option Addr} {l : List Int} (h : w.ownsRow B 109 1 (.slice G n c) n (l.map (Value.int .u64))) (hn : 1 ≤ n) : ∃ g, G = some ⟨g, 0, none⟩ ∧ B ≤ g ∧ LowW w w g n l := by
  have hr := Ri.of_own h
  rcases h.2 with ⟨_, h0⟩ | ⟨g, cap, cur, e, hB, hb, _⟩
  · omega
  · injection e with e1 e2 e3
    subst e1
    obtain ⟨b, o, e, _, hc⟩ := hr.all (by omega)
    injection e with e; injection e with e1 e2
    subst e1 e2
    refine ⟨_, rfl, hB, cur, hb, hr.len, fun j hj => ?_, World.grownBy.refl _ _⟩
    have h1 := hc j hj
    rw [Nat.zero_add, (show Blk w _ _ cur from hb).cell] at h1
    exact h1
theorem LowW.ri {w0 w : World} {g n : Nat} {l : List Int} (h : LowW w0 w g n l) : Ri w .u64 (some ⟨g, 0, none⟩) n l :=
  Ri.mk_ h.len h.lt fun j hj => by rw [Nat.zero_add]; exact h.cell hj
/-- What is not in the row's block reads as it did. -/
theorem LowW.far {w0 w : World} {g n m : Nat} {l r : List Int} {k : IntKind} {A : Option Addr} (h : LowW w0 w g n l) (hr : Ri w0 k A m r) (hA : ∀ b o, A = some ⟨b, o, none⟩ → b ≠ g) : Ri w k A m r :=
  hr.grown h.grown (fun g' b o h1 h2 => by injection h1 with h1; subst h1; exact (hA b o h2).symm)
theorem LowW.blk {w0 w : World} {g n b : Nat} {l : List Int} {t : TypeId} {cs : Array Value} (h : LowW w0 w g n l) (hk : Blk w0 b t cs) (hb : b ≠ g) : Blk w b t cs := hk.grown h.grown (fun e => hb (by injection e))
theorem LowW.trans {w0 w1 w : World} {g n m : Nat} {l l2 : List Int} (h : LowW w0 w1 g n l) (k : LowW w1 w g m l2) : LowW w0 w g m l2 := by
  obtain ⟨cur, hb, hl, hc, hg⟩ := k
  exact ⟨cur, hb, hl, hc, h.grown.trans hg⟩
theorem LowW.self {w0 w : World} {g n : Nat} {l : List Int} (h : LowW w0 w g n l) : LowW w w g n l := by
  obtain ⟨cur, hb, hl, hc, hg⟩ := h
  exact ⟨cur, hb, hl, hc, World.grownBy.refl _ _⟩
theorem mask64 (x : Int) (K : Nat) (hx : 0 ≤ x ∧ x < 18446744073709551616) (hK : K < 64) : IntKind.u64.wrap (2 ^ K) = 2 ^ K ∧ IntKind.u64.wrap (2 ^ K - 1) = 2 ^ K - 1 ∧ bits BinOp.and IntKind.u64 x (2 ^ K - 1) = x % 2 ^ K := by
  have h := and_low64 x K hx hK
  have h1 : 1 ≤ 2 ^ K := Nat.one_le_two_pow
  have h2 : 2 ^ K ≤ 2 ^ 63 := Nat.pow_le_pow_right (by omega) (by omega)
  have e : (2 : Int) ^ K = ((2 ^ K : Nat) : Int) := by simp
  have e1 : IntKind.u64.wrap (2 ^ K) = 2 ^ K := by rw [e, IntKind.wrap_u64]; omega
  have e2 : IntKind.u64.wrap (2 ^ K - 1) = 2 ^ K - 1 := by rw [e, IntKind.wrap_u64]; omega
  rw [e1, e2] at h
  exact ⟨e1, e2, h⟩

def PatOut (w : World) (g n : Nat) (r : Option (List Int × Nat)) (e : Ending) (w' : World) : Prop :=
  ∃ l2, e = .returned (.bool r.isSome) ∧ LowW w w' g n l2 ∧ ∀ s, r = some s → l2 = s.1
theorem ediv_zero {q m : Int} (hm : 0 < m) (h : q / m = 0) : q < m := by
  have h1 := Int.emod_lt_of_pos q hm
  have h2 := Int.ediv_mul_add_emod q m
  rw [h, Int.zero_mul] at h2
  omega

set_option maxRecDepth 100000 in
set_option maxHeartbeats 4000000 in
theorem patched_any (w : World) (g n c : Nat) (A2 : Option Addr) (n2 c2 : Nat) (low both : List Int) (B : Int) (K gp W : Nat) (hlow : LowW w w g n low) (hb : Ri w .u64 A2 n2 both) (hub : U64 both) (hA2 : ∀ b o, A2 = some ⟨b, o, none⟩ → b ≠ g)
    (hK : K < 64) (hg1 : 1 ≤ gp) (hg8 : gp ≤ 8) (hW : W ≤ 64) (hn : n ≤ 1000) (hn2 : n2 ≤ 1000) :
    Calls Tryz.prog 165 #[.agg #[.int .i64 B, .slice (some ⟨g, 0, none⟩) n c, .slice none 0 0, .int .i64 gp, .int .i64 K], .slice A2 n2 c2, .int .i64 W] w
      (PatOut w g n (patchN K gp W low both n2)) := by
  have HLOW := Lib.hid hlow; have HB := Lib.hid hb; have HUB := Lib.hid hub; have HN2 := Lib.hid hb.len
  have hgw := hlow.lt
  have HA2 := Lib.hid hA2
  clear hlow hb hub hA2
  go_enter Tryz.func165, Tryz.ntmps165
  go_wp2_with fail
  go_loopw [7, 14] (fun at_ i wr => ∃ (j a : Nat) (l : List Int), j ≤ n2 ∧ i = .int .i64 j ∧ at_ = .int .i64 a ∧ a ≤ n ∧ Hid (patchN K gp W low both j = some (l, a)) ∧ Hid (LowW w wr g n l) ∧ Hid (Blk wr w.heap.size 151 #[.int .i64 B, .slice (some ⟨g, 0, none⟩) n c, .slice none 0 0, .int .i64 gp, .int .i64 K])) (fun _ i _ => n2 - (intOf i).toNat)
  case atStart => exact ⟨0, 0, low, by omega, rfl, rfl, by omega, rfl, HLOW.out.alloc _, Blk.new _ _ _⟩
  case round =>
    obtain ⟨j, a, l, hj, rfl, rfl, ha, hpn, hlw, hbk⟩ := hrel
    by_cases hlt : j < n2
    · obtain ⟨b2, o2, rfl, hbl2, hcell⟩ := HB.out.at_ hlt
      have hne := HA2.out b2 o2 rfl
      have hx := HUB.out _ (getD_mem both j (by rw [HN2.out]; exact hlt))
      have g1 := (LowW.far hlw.out HB.out HA2.out)
      obtain ⟨b2', o2', e, _, hc2⟩ := g1.all (by omega)
      injection e with e; injection e with e1 e2; subst e1 e2
      have g1 := hc2 j hlt
      have hstep := patchN_succ K gp W low both j l a hpn.out
      have hbadn := @patchN_bad K gp W low both j n2 l a hpn.out hlt
      obtain ⟨x, hxe⟩ : ∃ x, x = both.getD j 0 := ⟨_, rfl⟩
      rw [← hxe] at g1 hx hstep hbadn
      have HSTEP := Lib.hid hstep; have HBADN := Lib.hid hbadn
      obtain ⟨hm1, hm2, hm3⟩ := mask64 x K hx hK
      have hdv := div_range x K hx
      have hk4 : wr.cell? ⟨w.heap.size, 4, none⟩ = some (.int .i64 K) := (hbk.out.cell 4).trans rfl
      have hk3 : wr.cell? ⟨w.heap.size, 3, none⟩ = some (.int .i64 gp) := (hbk.out.cell 3).trans rfl
      have hk1 : wr.cell? ⟨w.heap.size, 1, none⟩ = some (.slice (some ⟨g, 0, none⟩) n c) := (hbk.out.cell 1).trans rfl
      have hpr : 0 ≤ x % 2 ^ K ∧ x % 2 ^ K ≤ x := by
        have hk : (0 : Int) < 2 ^ K := Int.pow_pos (by decide)
        refine ⟨Int.emod_nonneg _ (by omega), ?_⟩
        have h1 := Int.ediv_mul_add_emod x (2 ^ K)
        have h2 : 0 ≤ x / 2 ^ K * 2 ^ K := Int.mul_nonneg hdv.1 (by omega)
        omega
      have hll := hlw.out.len
      have hsb := @patchStep_bad K gp W l a x
      have hso := @patchStep_ok K gp W l a x
      rw [hll] at hsb hso
      obtain ⟨p, hp⟩ : ∃ p, p = x % 2 ^ K := ⟨_, rfl⟩
      rw [← hp] at hm3 hpr hsb hso
      obtain ⟨q, hq⟩ : ∃ q, q = x / 2 ^ K := ⟨_, rfl⟩
      rw [← hq] at hdv hsb hso
      have HSB := Lib.hid hsb; have HSO := Lib.hid hso; have HLL := Lib.hid hll
      clear hcell hc2 hstep hbadn hxe hll hsb hso hp
      have hpw : (2 : Int) ^ gp ≤ 256 := by
        have h1 : 2 ^ gp ≤ 2 ^ 8 := Nat.pow_le_pow_right (by omega) hg8
        have e : ((2 ^ gp : Nat) : Int) = 2 ^ gp := by simp
        rw [← e]; omega
      have hpw0 : (0 : Int) < 2 ^ gp := Int.pow_pos (by decide)
      have hdsz := hbk.out.lt
      by_cases c1 : q < 2 ^ gp
      · have hqz : q / 2 ^ gp = 0 := Int.ediv_eq_zero_of_lt hdv.1 c1
        obtain ⟨Q, hQe⟩ := Int.eq_ofNat_of_zero_le hdv.1
        subst hQe
        have hQ : Q < 256 := by omega
        have hq2 := hq.symm
        rw [Int.toNat_natCast] at HSB HSO
        have hqb : ((Q : Int) / 2 ^ gp != 0) = false := by simp [hqz]
        have HC1 := Lib.hid c1
        clear hq hdv hqz hpw hpw0 c1
        by_cases c2 : n ≤ a + Q
        · have hnone := HBADN.out (HSB.out (.inr (.inl c2)))
          have HNONE := Lib.hid hnone
          clear hnone
          go_wp2_with fail
          go_ret
          exact ⟨l, by rw [HNONE.out]; rfl, hlw.out, fun s h => by rw [HNONE.out] at h; cases h⟩
        · have hcl := hlw.out.cell (j := a + Q) (by omega)
          have hfz := hlw.out.frozen (a + Q)
          by_cases c3 : p = 0
          · have hok := HSTEP.out.trans (HSO.out HC1.out (by omega) (.inl c3))
            have hpb : (p != 0) = false := by simp [c3]
            have HOK := Lib.hid hok
            have hgne : g ≠ w.heap.size := by omega
            clear hok c3
            go_wp2_with fail
            go_region
            all_goals
              go_wp2_with fail
              go_roundw
              case rel => exact ⟨j + 1, a + Q, _, by omega, by go_num, by go_num, by omega, HOK, by first | exact (hlw.out.set_ (by omega) _).drew | exact hlw.out.drew.set_ (by omega) _ | exact hlw.out.set_ (by omega) _, by first | exact (hbk.out.far (p := ⟨g, a + Q, none⟩) (Ne.symm hgne) _).drew | exact hbk.out.drew.far (p := ⟨g, a + Q, none⟩) (Ne.symm hgne) _ | exact hbk.out.far (p := ⟨g, a + Q, none⟩) (Ne.symm hgne) _⟩
              case measure => simp [intOf] <;> omega
          · have hpb : (p != 0) = true := by simp [c3]
            obtain ⟨bl, hbl⟩ : ∃ bl, blen p.toNat = bl := ⟨_, rfl⟩
            have hblb : bl ≤ 64 := by rw [← hbl]; exact blen_64 _ (by omega)
            have HBL := Lib.hid hbl
            by_cases c4 : 64 ≤ bl + W
            · have hnone := HBADN.out (HSB.out (.inr (.inr ⟨c3, by rw [hbl]; exact c4⟩)))
              have HNONE := Lib.hid hnone
              clear hnone hbl c3
              go_wp2_with fail
              refine (Bits_any p _ (by omega) (by omega)).mono ?_; rintro e w' ⟨rfl, rfl⟩
              rw [HBL.out]
              go_wp2_with fail
              go_ret
              exact ⟨l, by rw [HNONE.out]; rfl, hlw.out, fun s h => by rw [HNONE.out] at h; cases h⟩
            · have hok := HSTEP.out.trans (HSO.out HC1.out (by omega) (.inr (by rw [hbl]; omega)))
              have HOK := Lib.hid hok
              have hgne : g ≠ w.heap.size := by omega
              clear hok c3 hbl
              go_wp2_with fail
              refine (Bits_any p _ (by omega) (by omega)).mono ?_; rintro e w' ⟨rfl, rfl⟩
              rw [HBL.out]
              go_wp2_with fail
              go_region
              all_goals
                go_wp2_with fail
                go_roundw
                case rel => exact ⟨j + 1, a + Q, _, by omega, by go_num, by go_num, by omega, HOK, by first | exact (hlw.out.set_ (by omega) _).drew | exact hlw.out.drew.set_ (by omega) _ | exact hlw.out.set_ (by omega) _, by first | exact (hbk.out.far (p := ⟨g, a + Q, none⟩) (Ne.symm hgne) _).drew | exact hbk.out.drew.far (p := ⟨g, a + Q, none⟩) (Ne.symm hgne) _ | exact hbk.out.far (p := ⟨g, a + Q, none⟩) (Ne.symm hgne) _⟩
                case measure => simp [intOf] <;> omega
      · have hqz : ¬ q / 2 ^ gp = 0 := fun h => c1 (ediv_zero hpw0 h)
        have hqb : (q / 2 ^ gp != 0) = true := by simp [hqz]
        have hnone := HBADN.out (HSB.out (.inl c1))
        have HNONE := Lib.hid hnone
        clear hnone
        rw [hq] at hqb hqz
        clear hq
        go_wp2_with fail
        go_ret
        exact ⟨l, by rw [HNONE.out]; rfl, hlw.out, fun s h => by rw [HNONE.out] at h; cases h⟩
    · obtain rfl : j = n2 := by omega
      go_wp2_with fail
      go_ret
      exact ⟨l, by rw [hpn.out]; rfl, hlw.out, fun s h => by rw [hpn.out] at h; injection h with h; rw [← h]⟩
end Go.Proofs.YtmejoococajikaaGreat

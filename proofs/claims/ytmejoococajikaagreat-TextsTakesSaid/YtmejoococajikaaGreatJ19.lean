/- Joined texts: PBased, PlainPb, PRefA. Each has its own head line. No condition beyond those that its theorems state. -/
import Derived.Test.YtmejoococajikaaGreatJ18
import Derived.Test.YtmejoococajikaaGreatJ12
import Derived.Test.YtmejoococajikaaGreatJ04
import Derived.Test.YtmejoococajikaaGreatJ08
set_option linter.unusedVariables false

/- patched.based and its reference: a base as bytes. -/
namespace Go.Proofs.YtmejoococajikaaGreat
open Go.RowKit

def baseN (b : Int) : Nat := blen b.natAbs / 8 + 1
def baseR (b : Int) : List Int :=
  if b = -9223372036854775808 then []
  else if b < 0 then (bytesOf b.natAbs (baseN b)).set 0 ((bytesOf b.natAbs (baseN b)).getD 0 0 + 128) else bytesOf b.natAbs (baseN b)
theorem baseN_le (b : Int) (hb : I64x b) : 1 ≤ baseN b ∧ baseN b ≤ 9 := by
  have h := blen_64 b.natAbs (by unfold I64x at hb; omega)
  unfold baseN; omega
theorem baseR_len (b : Int) (h : b ≠ -9223372036854775808) : (baseR b).length = baseN b := by
  unfold baseR
  rw [if_neg h]
  split
  · rw [List.length_set, bytesOf_len]
  · rw [bytesOf_len]
theorem base_top (b : Int) : 0 ≤ (bytesOf b.natAbs (baseN b)).getD 0 0 ∧ (bytesOf b.natAbs (baseN b)).getD 0 0 < 128 := by
  have hN : 0 < baseN b := by unfold baseN; omega
  have e : (bytesOf b.natAbs (baseN b)).getD 0 0 = (byteAt b.natAbs (baseN b) 0 : Int) := by
    rw [List.getD, bytesOf_get _ _ _ hN]; rfl
  rw [e]
  refine ⟨Int.natCast_nonneg _, ?_⟩
  unfold byteAt
  have h1 : b.natAbs < 2 ^ blen b.natAbs := blen_lt _
  have h2 : b.natAbs / 256 ^ (baseN b - 1 - 0) < 128 := by
    rw [Nat.div_lt_iff_lt_mul (Nat.pow_pos (by omega)), pow8, show (128 : Nat) = 2 ^ 7 from rfl, ← Nat.pow_add]
    exact Nat.lt_of_lt_of_le h1 (Nat.pow_le_pow_right (by omega) (by unfold baseN; omega))
  rw [Nat.mod_eq_of_lt (by omega)]
  omega
theorem or_128p (x : Int) (h0 : 0 ≤ x) (h : x < 128) : bits BinOp.or IntKind.u8 x 128 = x + 128 := by
  have : ∀ i : Fin 128, bits BinOp.or IntKind.u8 ((i.val : Nat) : Int) 128 = ((i.val : Nat) : Int) + 128 := by decide +kernel
  have h := this ⟨x.toNat, by omega⟩
  rwa [show (((⟨x.toNat, by omega⟩ : Fin 128).val : Nat) : Int) = x from by simp; omega] at h
theorem Ri.set_ {w : World} {k : IntKind} {b o n : Nat} {l : List Int} (h : Ri w k (some ⟨b, o, none⟩) n l) (i : Nat) (hi : i < n) (x : Int) : Ri (w.setCell ⟨b, o + i, none⟩ (.int k x)) k (some ⟨b, o, none⟩) n (l.set i x) := by
  obtain ⟨b', o', e, hb, hc⟩ := h.all (by omega)
  injection e with e; injection e with e1 e2; subst e1 e2
  refine Ri.mk_ (by rw [List.length_set]; exact h.len) (by simpa [World.setCell] using hb) fun j hj => ?_
  by_cases hij : i = j
  · subst hij
    rw [World.cell?_setCell_same _ _ _ (hc i hi), List.getD, List.getElem?_set_self (by rw [h.len]; exact hi)]; rfl
  · rw [World.cell?_setCell_other _ _ _ _ (by intro e; injection e with _ e; omega), hc j hj, List.getD, List.getD, List.getElem?_set_ne hij]
theorem ri_one_atp {w : World} {k : IntKind} {x : Int} {t : TypeId} {g : Nat} (h : g = w.heap.size) : Ri (w.alloc (.cells #[.int k x] t)) k (some ⟨g, 0, none⟩) 1 [x] := by subst h; exact Rd.one _ _ _
theorem base_byte (s N k m : Nat) (h : m + k + 1 = N) : ((s : Int) / 2 ^ (8 * m)) % 256 = (byteAt s N k : Int) := by
  unfold byteAt
  rw [show N - 1 - k = m from by omega, pow8]
  simp
theorem bytes_snoc (s N k m : Nat) (h : m + k + 1 = N) : (bytesOf s N).take (k + 1) = (bytesOf s N).take k ++ [((s : Int) / 2 ^ (8 * m)) % 256] := by
  rw [base_byte s N k m h, List.take_succ_eq_append_getElem (by rw [bytesOf_len]; omega)]
  simp [bytesOf]
theorem diff_base (b : Int) (hb : I64x b) (h : b ≠ -9223372036854775808) : diffR 0 b = ((b.natAbs : Int), decide (b < 0), true) := by
  unfold I64x at hb
  unfold diffR
  by_cases hlt : b < 0
  · rw [if_pos hlt, if_neg (by omega), show (0 : Int) - b = (b.natAbs : Int) from by omega]
  · rw [if_neg hlt, if_neg (by omega), show b - 0 = (b.natAbs : Int) from by omega]

set_option maxRecDepth 100000 in
set_option maxHeartbeats 1000000 in
theorem based_bad (w : World) : Calls Tryz.prog 128 #[.int .i64 (-9223372036854775808)] w fun e w' => e = .returned (.slice none 0 0) ∧ Below w.heap.size w w' := by
  go_enter Tryz.func128, Tryz.ntmps128
  go_wp2_with fail
  refine (Diff_any _ 0 (-9223372036854775808) (by unfold I64x; omega) (by unfold I64x; omega) 0 false false (by decide)).mono ?_; rintro e w2 ⟨rfl, hb2⟩
  go_wp2_with fail
  go_returns
  exact ⟨rfl, hb2⟩

set_option maxRecDepth 100000 in
set_option maxHeartbeats 1000000 in
theorem based_any (w : World) (b : Int) (hb : I64x b) (hne : b ≠ -9223372036854775808) : Calls Tryz.prog 128 #[.int .i64 b] w (BytesOut w (baseR b)) := by
  have hd := diff_base b hb hne
  have HN := baseN_le b hb
  have hlen := bytesOf_len b.natAbs (baseN b)
  have htop := base_top b
  have hor := or_128p _ htop.1 htop.2
  have hres : baseR b = if b < 0 then (bytesOf b.natAbs (baseN b)).set 0 ((bytesOf b.natAbs (baseN b)).getD 0 0 + 128) else bytesOf b.natAbs (baseN b) := by unfold baseR; rw [if_neg hne]
  have HD := Lib.hid hd; have HRES := Lib.hid hres
  have hs : b.natAbs ≤ 9223372036854775808 := by unfold I64x at hb; omega
  have hbl : baseN b = blen b.natAbs / 8 + 1 := rfl
  have hblen := blen_64 b.natAbs (by omega)
  obtain ⟨s, hse⟩ : ∃ s, s = b.natAbs := ⟨_, rfl⟩
  obtain ⟨N, hNe⟩ : ∃ N, N = baseN b := ⟨_, rfl⟩
  rw [← hse] at hs hlen htop hor hblen
  rw [← hNe] at HN hlen htop hor
  rw [← hNe, ← hse] at hbl
  obtain ⟨f, hf⟩ : ∃ f, f = decide (b < 0) := ⟨_, rfl⟩
  have HF := Lib.hid hf; have HSE := Lib.hid hse; have HNE := Lib.hid hNe
  have HLEN := Lib.hid hlen
  obtain ⟨L, hLe⟩ : ∃ L, L = bytesOf s N := ⟨_, rfl⟩
  rw [← hLe] at htop hor
  have HL := Lib.hid hLe; have HOR := Lib.hid hor
  obtain ⟨q, hq⟩ : ∃ q, q = blen s := ⟨_, rfl⟩
  rw [← hq] at hbl hblen
  have HQ := Lib.hid hq
  clear hd hres hne hse hNe hf hlen hLe hor hq
  go_enter Tryz.func128, Tryz.ntmps128
  go_wp2_with fail
  refine (Diff_any _ 0 b (by unfold I64x; omega) hb s f true (by rw [HD.out, HSE.out, HF.out])).mono ?_; rintro e w2 ⟨rfl, hb2⟩
  have HB2 := Lib.hid hb2; clear hb2
  go_wp2_with fail
  refine (Bits_any (s : Int) _ (by omega) (by omega)).mono ?_; rintro e w' ⟨rfl, rfl⟩
  rw [Int.toNat_natCast, ← HQ.out]
  go_wp2_with fail
  go_loopw [6, 7] (fun v i wr => ∃ k : Nat, k ≤ N ∧ i = .int .i64 ((N : Int) - 1 - k) ∧ Hid (wr.ownsRow w.heap.size 5 1 v k ((L.take k).map (Value.int .u8))) ∧ Hid (Below w.heap.size w wr)) (fun _ i _ => (intOf i + 1).toNat)
  case atStart => exact ⟨0, by omega, by congr 1; omega, World.ownsRow_nil _ _ _ _, HB2⟩
  case round =>
    clear hbl
    obtain ⟨k, hk, rfl, hown, hbw⟩ := hrel
    by_cases hlt : k < N
    · obtain ⟨m, hm⟩ : ∃ m : Nat, m + k + 1 = N := ⟨N - 1 - k, by omega⟩
      rw [show (N : Int) - 1 - k = (m : Int) from by omega]
      have hsn := bytes_snoc s N k m hm
      rw [← HL.out] at hsn
      have HSN := Lib.hid hsn
      have hsz := hbw.out.size
      clear hsn
      go_wp2_with (at_builtin; refine wpList_u8 _ rfl _ _ rfl w.heap.size _ k _ rfl (hown.out.alloc _) _ 1 1 [_] rfl (ri_one_atp rfl) (by omega) (by simp; omega) ?_; intro G c w3 hown3 hgr hcc)
      have hb3 := push_ hbw.out (Nat.le_refl _) hown.out hgr
      rw [← HSN.out] at hown3
      have HO3 := Lib.hid hown3
      clear hown3 hgr
      go_wp2_with fail
      go_roundw
      case rel => exact ⟨k + 1, by omega, by congr 1; omega, HO3, hb3⟩
      case measure => simp [intOf] <;> omega
    · obtain rfl : k = N := by omega
      have ho := hown.out
      rw [List.take_of_length_le (by rw [HL.out, HLEN.out]; exact Nat.le_refl _)] at ho
      rcases ho.2 with ⟨_, h0⟩ | ⟨g, cg, cur, rfl, hh⟩
      · omega
      · have hsl := Sl.of_own ho
        have HS := Lib.hid hsl
        obtain ⟨b', o', e, hbb, hcc⟩ := hsl.1.all (by omega)
        injection e with e; injection e with e1 e2; subst e1 e2
        have c0 := hcc 0 (by omega)
        rw [Nat.add_zero] at c0
        have f0 := (show Blk wr g _ cur from hh.2.1).frozen 0
        have hcp := own_cap ho
        have hge := (ho.lt g rfl).1
        clear hcc hh ho hown
        cases f
        · have hb0 : ¬ b < 0 := of_decide_eq_false HF.out.symm
          go_wp2_with fail
          go_ret
          rw [HRES.out, if_neg (by omega), ← HNE.out, ← HSE.out, ← HL.out]
          exact ⟨_, _, _, rfl, HS.out, hbw.out⟩
        · have hb0 : b < 0 := of_decide_eq_true HF.out.symm
          obtain ⟨y, hy⟩ : ∃ y, y = L.getD 0 0 := ⟨_, rfl⟩
          rw [← hy] at c0 htop
          have HY := Lib.hid hy
          clear hy
          go_wp2_with fail
          go_ret
          rw [HRES.out, if_pos hb0, ← HNE.out, ← HSE.out, ← HL.out, ← HOR.out, ← HY.out]
          have hset : Ri (wr.setCell ⟨g, 0, none⟩ (.int .u8 (bits BinOp.or IntKind.u8 y 128))) .u8 (some ⟨g, 0, none⟩) k (L.set 0 (bits BinOp.or IntKind.u8 y 128)) := HS.out.1.set_ 0 (by omega) (bits BinOp.or IntKind.u8 y 128)
          exact ⟨_, _, _, rfl, ⟨hset, HS.out.2⟩, hbw.out.setCell hge _⟩

set_option maxRecDepth 100000 in
set_option maxHeartbeats 1000000 in
theorem refBased_any (w : World) (b : Int) (hb : I64x b) (hne : b ≠ -9223372036854775808) : Calls Tryz.prog 96 #[.int .i64 b] w (BytesOut w (baseR b)) := by
  have hd := diff_base b hb hne
  have HN := baseN_le b hb
  have hlen := bytesOf_len b.natAbs (baseN b)
  have htop := base_top b
  have hres : baseR b = if b < 0 then (bytesOf b.natAbs (baseN b)).set 0 ((bytesOf b.natAbs (baseN b)).getD 0 0 + 128) else bytesOf b.natAbs (baseN b) := by unfold baseR; rw [if_neg hne]
  have HD := Lib.hid hd; have HRES := Lib.hid hres
  have hs : b.natAbs ≤ 9223372036854775808 := by unfold I64x at hb; omega
  have hbl : baseN b = blen b.natAbs / 8 + 1 := rfl
  have hblen := blen_64 b.natAbs (by omega)
  obtain ⟨s, hse⟩ : ∃ s, s = b.natAbs := ⟨_, rfl⟩
  obtain ⟨N, hNe⟩ : ∃ N, N = baseN b := ⟨_, rfl⟩
  rw [← hse] at hs hlen htop hblen
  rw [← hNe] at HN hlen htop
  rw [← hNe, ← hse] at hbl
  obtain ⟨f, hf⟩ : ∃ f, f = decide (b < 0) := ⟨_, rfl⟩
  have HF := Lib.hid hf; have HSE := Lib.hid hse; have HNE := Lib.hid hNe
  have HLEN := Lib.hid hlen
  obtain ⟨L, hLe⟩ : ∃ L, L = bytesOf s N := ⟨_, rfl⟩
  rw [← hLe] at htop
  have HL := Lib.hid hLe
  obtain ⟨q, hq⟩ : ∃ q, q = blen s := ⟨_, rfl⟩
  rw [← hq] at hbl hblen
  have HQ := Lib.hid hq
  clear hd hres hne hse hNe hf hlen hLe hq
  go_enter Tryz.func96, Tryz.ntmps96
  go_wp2_with fail
  refine (refDiff_any _ 0 b (by unfold I64x; omega) hb s f true (by rw [HD.out, HSE.out, HF.out])).mono ?_; rintro e w2 ⟨rfl, rfl⟩
  go_wp2_with fail
  refine (refBits_any s _ (by omega)).mono ?_; rintro e w' ⟨rfl, rfl⟩
  rw [← HQ.out]
  go_wp2_with fail
  go_loopw [7, 8] (fun v i wr => ∃ k : Nat, k ≤ N ∧ i = .int .i64 ((N : Int) - 1 - k) ∧ Hid (wr.ownsRow w.heap.size 5 1 v k ((L.take k).map (Value.int .u8))) ∧ Hid (Below w.heap.size w wr)) (fun _ i _ => (intOf i + 1).toNat)
  case atStart => exact ⟨0, by omega, by congr 1; omega, own_empty w _ 1, (Below.refl _ _).alloc (Nat.le_refl _) _⟩
  case round =>
    clear hbl
    obtain ⟨k, hk, rfl, hown, hbw⟩ := hrel
    by_cases hlt : k < N
    · obtain ⟨m, hm⟩ : ∃ m : Nat, m + k + 1 = N := ⟨N - 1 - k, by omega⟩
      rw [show (N : Int) - 1 - k = (m : Int) from by omega]
      have hsn := bytes_snoc s N k m hm
      rw [← HL.out] at hsn
      have HSN := Lib.hid hsn
      have hsz := hbw.out.size
      clear hsn
      go_wp2_with (at_builtin; refine wpList_u8 _ rfl _ _ rfl w.heap.size _ k _ rfl (hown.out.alloc _) _ 1 1 [_] rfl (ri_one_atp rfl) (by omega) (by simp; omega) ?_; intro G c w3 hown3 hgr hcc)
      have hb3 := push_ hbw.out (Nat.le_refl _) hown.out hgr
      rw [← HSN.out] at hown3
      have HO3 := Lib.hid hown3
      clear hown3 hgr
      go_wp2_with fail
      go_roundw
      case rel => exact ⟨k + 1, by omega, by congr 1; omega, HO3, hb3⟩
      case measure => simp [intOf] <;> omega
    · obtain rfl : k = N := by omega
      have ho := hown.out
      rw [List.take_of_length_le (by rw [HL.out, HLEN.out]; exact Nat.le_refl _)] at ho
      rcases ho.2 with ⟨_, h0⟩ | ⟨g, cg, cur, rfl, hh⟩
      · omega
      · have hsl := Sl.of_own ho
        have HS := Lib.hid hsl
        obtain ⟨b', o', e, hbb, hcc⟩ := hsl.1.all (by omega)
        injection e with e; injection e with e1 e2; subst e1 e2
        have c0 := hcc 0 (by omega)
        rw [Nat.add_zero] at c0
        have f0 := (show Blk wr g _ cur from hh.2.1).frozen 0
        have hcp := own_cap ho
        have hge := (ho.lt g rfl).1
        clear hcc hh ho hown
        cases f
        · have hb0 : ¬ b < 0 := of_decide_eq_false HF.out.symm
          go_wp2_with fail
          go_ret
          rw [HRES.out, if_neg (by omega), ← HNE.out, ← HSE.out, ← HL.out]
          exact ⟨_, _, _, rfl, HS.out, hbw.out⟩
        · have hb0 : b < 0 := of_decide_eq_true HF.out.symm
          obtain ⟨y, hy⟩ : ∃ y, y = L.getD 0 0 := ⟨_, rfl⟩
          rw [← hy] at c0 htop
          have HY := Lib.hid hy
          clear hy
          go_wp2_with fail
          go_ret
          rw [HRES.out, if_pos hb0, ← HNE.out, ← HSE.out, ← HL.out, ← HY.out]
          have hset : Ri (wr.setCell ⟨g, 0, none⟩ (.int .u8 (y + 128))) .u8 (some ⟨g, 0, none⟩) k (L.set 0 (y + 128)) := HS.out.1.set_ 0 (by omega) (y + 128)
          exact ⟨_, _, _, rfl, ⟨hset, HS.out.2⟩, hbw.out.setCell hge _⟩
end Go.Proofs.YtmejoococajikaaGreat

/- Patched: what Put answers. -/
namespace Go.Proofs.YtmejoococajikaaGreat
open Go.RowKit

def kP (l : List Int) (x : Nat) : Nat := (wClosest (pN (prL l x))).toNat
def boP (P : List (Int × Int)) (K : Nat) : List Int := P.map fun q => q.1 * 2 ^ K + q.2
def cP (l : List Int) (x : Nat) : Int := wClosest ((gN (prL l x) : Int) + kP l x)
def prePa (l : List Int) (x : Int) (s : Bool) : Bool :=
  decide (l.length < 1) || decide (512 < l.length) || (!s && l.any fun y => decide (y < 0)) || decide (wCode x < 0) || decide (64 ≤ x)
def okPa (l : List Int) (x : Nat) : Bool := nearL l l.length && fitsPa l x && decide (minL l ≠ -9223372036854775808)
def twoPa (l : List Int) (x : Nat) : List Int :=
  [(32 * ((baseN (minL l) : Int) - 1) + wCode (kP l x)) % 256, (32 * ((gN (prL l x) : Int) - 1) + (prL l x).length) % 256]
/-- What Put answers. -/
def putPa (l : List Int) (x : Int) (s : Bool) : List Int × Int :=
  if prePa l x s || !okPa l x.toNat then ([], 1)
  else (headR 2 (wCode x) l.length ++ twoPa l x.toNat ++ baseR (minL l) ++ (packR (lowL (upL l) x.toNat) x).1 ++ (packR (boP (prL l x.toNat) (kP l x.toNat)) (cP l x.toNat)).1, 0)
theorem boP_snoc (P : List (Int × Int)) (K j : Nat) (h : j < P.length) : boP (P.take (j + 1)) K = boP (P.take j) K ++ [(P.getD j (0, 0)).1 * 2 ^ K + (P.getD j (0, 0)).2] := by
  unfold boP
  rw [List.take_succ_eq_append_getElem h, List.map_append]
  simp [List.getD, List.getElem?_eq_getElem h]
/-- Each pair's numbers have room. -/
def PairsK (P : List (Int × Int)) (g K : Nat) : Prop := ∀ q ∈ P, 0 ≤ q.1 ∧ q.1 < 2 ^ g ∧ 0 ≤ q.2 ∧ q.2 < 2 ^ K
theorem fits_parts {l : List Int} {x : Nat} (h : fitsPa l x = true) : (prL l x).length ≤ 31 ∧ gN (prL l x) + kP l x ≤ 64 ∧ x + kP l x ≤ 64 := by
  unfold fitsPa at h
  simp only [Bool.and_eq_true, decide_eq_true_eq] at h
  have := wClosest_le (pN (prL l x))
  unfold kP
  omega
theorem kP_room {l : List Int} (hu : I64 l) (x : Nat) (hl : l.length ≤ 512) : (kP l x : Int) = wClosest (pN (prL l x)) ∧ pN (prL l x) ≤ kP l x ∧ 1 ≤ kP l x ∧ kP l x ≤ 64 := by
  have h1 := (prL_range hu x hl).gN_le.2
  have h2 := wClosest_room (pN (prL l x)) (by omega) (by omega)
  unfold kP; omega
theorem pairs_room {l : List Int} (hu : I64 l) (x : Nat) (hl : l.length ≤ 512) : PairsK (prL l x) (gN (prL l x)) (kP l x) := by
  intro q hq
  have hr := prL_range hu x hl q hq
  have h1 := mostBits_mem _ q.1 (List.mem_map.2 ⟨q, hq, rfl⟩ : q.1 ∈ (prL l x).map Prod.fst)
  have h2 := mostBits_mem _ q.2 (List.mem_map.2 ⟨q, hq, rfl⟩ : q.2 ∈ (prL l x).map Prod.snd)
  have h3 := kP_room hu x hl
  have h4 : q.1.toNat < 2 ^ gN (prL l x) := Nat.lt_of_lt_of_le (blen_lt _) (Nat.pow_le_pow_right (by omega) (by unfold gN; omega))
  have h5 : q.2.toNat < 2 ^ kP l x := Nat.lt_of_lt_of_le (blen_lt _) (Nat.pow_le_pow_right (by omega) (Nat.le_trans (by unfold pN at h3 ⊢; omega) h3.2.1))
  have e4 : ((2 ^ gN (prL l x) : Nat) : Int) = 2 ^ gN (prL l x) := by simp
  have e5 : ((2 ^ kP l x : Nat) : Int) = 2 ^ kP l x := by simp
  rw [← e4, ← e5]
  omega
theorem both_lt {a b : Int} {g K : Nat} (h : 0 ≤ a ∧ a < 2 ^ g ∧ 0 ≤ b ∧ b < 2 ^ K) : 0 ≤ a * 2 ^ K + b ∧ a * 2 ^ K + b < 2 ^ (g + K) := by
  obtain ⟨h1, h2, h3, h4⟩ := h
  have hk : (0 : Int) < 2 ^ K := Int.pow_pos (by decide)
  have e : (2 : Int) ^ (g + K) = 2 ^ g * 2 ^ K := by rw [Int.pow_add]
  have h5 : 0 ≤ a * 2 ^ K := Int.mul_nonneg h1 (by omega)
  have h6 : (a + 1) * 2 ^ K ≤ 2 ^ g * 2 ^ K := Int.mul_le_mul_of_nonneg_right (by omega) (by omega)
  rw [Int.add_mul, Int.one_mul] at h6
  omega
theorem pow_le64 {m : Nat} (h : m ≤ 64) : (2 : Int) ^ m ≤ 18446744073709551616 := by
  have h1 : 2 ^ m ≤ 2 ^ 64 := Nat.pow_le_pow_right (by omega) h
  have e : ((2 ^ m : Nat) : Int) = 2 ^ m := by simp
  rw [← e]; omega
/-- A gap and a patch as one number: by 'or' of what is shifted. -/
theorem both_or {a b : Int} {g K : Nat} (h : 0 ≤ a ∧ a < 2 ^ g ∧ 0 ≤ b ∧ b < 2 ^ K) (hg : g + K ≤ 64) :
    IntKind.u64.wrap (a * 2 ^ K) = a * 2 ^ K ∧ bits BinOp.or IntKind.u64 (a * 2 ^ K) b = a * 2 ^ K + b ∧ IntKind.u64.wrap (a * 2 ^ K + b) = a * 2 ^ K + b := by
  have h1 := both_lt h
  have h2 := pow_le64 hg
  obtain ⟨ha, _, hb, hb2⟩ := h
  have hk : (0 : Int) < 2 ^ K := Int.pow_pos (by decide)
  have h5 : 0 ≤ a * 2 ^ K := Int.mul_nonneg ha (by omega)
  refine ⟨by rw [IntKind.wrap_u64]; omega, ?_, by rw [IntKind.wrap_u64]; omega⟩
  obtain ⟨a, rfl⟩ := Int.eq_ofNat_of_zero_le ha
  obtain ⟨b, rfl⟩ := Int.eq_ofNat_of_zero_le hb
  have e5 : ((2 ^ K : Nat) : Int) = 2 ^ K := by simp
  rw [← e5] at h1 hb2 h5 ⊢
  rw [← Int.natCast_mul] at h1 ⊢
  have hb3 : b < 2 ^ K := by omega
  rw [u64_or_nat _ _ (by omega) (by omega), Nat.mul_comm a, ← Nat.two_pow_add_eq_or_of_lt hb3 a]
  simp
theorem boP_len (P : List (Int × Int)) (K : Nat) : (boP P K).length = P.length := by simp [boP]
theorem boP_room {P : List (Int × Int)} {g K : Nat} (h : PairsK P g K) (hg : g + K ≤ 64) (c : Nat) (hc : g + K ≤ c) : U64 (boP P K) ∧ (boP P K).all (roomB c) = true := by
  have hq : ∀ y ∈ boP P K, 0 ≤ y ∧ y < 2 ^ (g + K) := by
    intro y hy
    obtain ⟨q, hq, rfl⟩ := List.mem_map.1 hy
    exact both_lt (h q hq)
  have h2 := pow_le64 hg
  refine ⟨fun y hy => by have := hq y hy; omega, List.all_eq_true.2 fun y hy => ?_⟩
  unfold roomB
  refine decide_eq_true (.inr ?_)
  have h1 := hq y hy
  have h3 : 2 ^ (g + K) ≤ 2 ^ c := Nat.pow_le_pow_right (by omega) hc
  have e : ((2 ^ (g + K) : Nat) : Int) = 2 ^ (g + K) := by simp
  rw [← e] at h1
  omega
theorem low_room (u : List Int) (_hu : U64 u) (x : Nat) (hx : x < 64) : U64 (lowL u x) ∧ (lowL u x).all (roomB x) = true ∧ (lowL u x).length = u.length := by
  have e : ((2 ^ x : Nat) : Int) = 2 ^ x := by simp
  have hk : (0 : Int) < 2 ^ x := Int.pow_pos (by decide)
  have h2 := pow_le64 (show x ≤ 64 by omega)
  have hq : ∀ y ∈ lowL u x, 0 ≤ y ∧ y < 2 ^ x := by
    intro y hy
    obtain ⟨q, _, rfl⟩ := List.mem_map.1 hy
    exact ⟨Int.emod_nonneg _ (by omega), Int.emod_lt_of_pos _ hk⟩
  refine ⟨fun y hy => by have := hq y hy; omega, List.all_eq_true.2 fun y hy => ?_, by simp [lowL]⟩
  unfold roomB
  refine decide_eq_true (.inr ?_)
  have h1 := hq y hy
  rw [← e] at h1
  omega
theorem putPa_good {l : List Int} {X : Nat} {s : Bool} {r : List Int} {er : Int} (hu : I64 l) (hn : l.length ≤ 512) (_h1 : 1 ≤ l.length) (hX : X < 64) (hpre : prePa l X s = false) (hnear : nearL l l.length = true) (hfits : fitsPa l X = true)
    (hmin : minL l ≠ -9223372036854775808) (hl : putPa l X s = (r, er)) :
    er = 0 ∧ ∃ K gg C : Nat, ∃ Pl Pb : List Int, kP l X = K ∧ gN (prL l X) = gg ∧ wClosest (pN (prL l X)) = (K : Int) ∧ wClosest ((gg : Int) + K) = (C : Int) ∧ 1 ≤ gg ∧ 1 ≤ K ∧ 0 ≤ wCode (K : Int) ∧ gg + K ≤ 64 ∧ X + K ≤ 64 ∧ gg + K ≤ C ∧ C ≤ 64 ∧ (prL l X).length ≤ 31 ∧
      PairsK (prL l X) gg K ∧ U64 (lowL (upL l) X) ∧ packR (lowL (upL l) X) X = (Pl, 0) ∧ Pl.length ≤ 5000 ∧ U64 (boP (prL l X) K) ∧ packR (boP (prL l X) K) C = (Pb, 0) ∧ Pb.length ≤ 5000 ∧
      headR 2 (wCode X) l.length ++ [(32 * ((baseN (minL l) : Int) - 1) + wCode K) % 256, (32 * ((gg : Int) - 1) + (prL l X).length) % 256] ++ baseR (minL l) ++ Pl ++ Pb = r := by
  unfold putPa at hl
  rw [hpre, Int.toNat_natCast, if_neg (by unfold okPa; rw [hnear, hfits, decide_eq_true hmin]; decide)] at hl
  injection hl with e1 e2
  obtain ⟨hp31, hgk, hxk⟩ := fits_parts hfits
  have hkr := kP_room hu X hn
  have hpk := pairs_room hu X hn
  have hlr := low_room (upL l) (upL_u64 hu) X hX
  obtain ⟨Pl, hpl, hpll⟩ := packR_ok (lowL (upL l) X) X (by omega) (by rw [hlr.2.2, upL_len]; omega) hlr.2.1
  have hcr := wClosest_room ((gN (prL l X) : Int) + kP l X) (by omega) (by omega)
  obtain ⟨C, hC⟩ : ∃ C : Nat, cP l X = (C : Int) := ⟨(cP l X).toNat, by unfold cP; omega⟩
  have hC2 : gN (prL l X) + kP l X ≤ C ∧ C ≤ 64 := by unfold cP at hC; omega
  have hbr := boP_room hpk hgk C hC2.1
  obtain ⟨Pb, hpb, hpbl⟩ := packR_ok (boP (prL l X) (kP l X)) C hC2.2 (by rw [boP_len]; omega) hbr.2
  rw [hpl, hC, hpb] at e1
  rw [hlr.2.2, upL_len] at hpll
  rw [boP_len] at hpbl
  have hg1 : 1 ≤ gN (prL l X) := by unfold gN; omega
  have m1 : l.length * X ≤ 512 * 64 := Nat.mul_le_mul (by omega) (by omega)
  have m2 : (prL l X).length * C ≤ 31 * 64 := Nat.mul_le_mul (by omega) (by omega)
  exact ⟨e2.symm, _, _, C, Pl, Pb, rfl, rfl, hkr.1.symm, hC, hg1, hkr.2.2.1, by rw [hkr.1]; exact (wClosest_room (pN (prL l X)) (by omega) (by omega)).2.2.2.1, hgk, hxk, hC2.1, hC2.2, hp31, hpk, hlr.1, hpl, by omega, hbr.1, hpb, by omega, e1⟩
end Go.Proofs.YtmejoococajikaaGreat

/- pilasterref10: above, pairs. -/
namespace Go.Proofs.YtmejoococajikaaGreat
open Go.RowKit

def AboveOut (w : World) (l : List Int) (e : Ending) (w' : World) : Prop :=
  ∃ b G n c, e = .returned (.tuple #[.int .i64 b, .slice G n c, .bool (nearL l l.length && decide (minL l ≠ -9223372036854775808))]) ∧ Below w.heap.size w w' ∧ (nearL l l.length = true → b = minL l ∧ Sl w' .u64 G n c (upL l))

set_option maxRecDepth 100000 in
set_option maxHeartbeats 2000000 in
theorem above10_any (w : World) (A : Option Addr) (n cap : Nat) (l : List Int) (hr : Ri w .i64 A n l) (hu : I64 l) (hn : n ≤ 512) (h1 : 1 ≤ n) :
    Calls Tryz.prog 94 #[.slice A n cap] w (AboveOut w l) := by
  have HR := Lib.hid hr; have HN := Lib.hid hr.len; have HU := Lib.hid hu
  clear hr hu
  obtain ⟨bb, oo, rfl, hbl, hcells⟩ := HR.out.all (by omega)
  have HC := Lib.hid hcells; clear hcells
  have h0 := HC.out 0 (by omega)
  rw [Nat.add_zero] at h0
  obtain ⟨a, ha⟩ : ∃ a, a = l.getD 0 0 := ⟨_, rfl⟩
  rw [← ha] at h0
  have HA := Lib.hid ha; clear ha
  go_enter Tryz.func94, Tryz.ntmps94
  go_wp2_with fail
  go_loopw [5, 6] (fun m i wr => ∃ (j : Nat) (z : Int), j ≤ n ∧ i = .int .i64 j ∧ Hid (wr = w) ∧ m = .int .i64 z ∧ Hid (z = (l.take j).foldl min a)) (fun _ i _ => n - (intOf i).toNat)
  case atStart => exact ⟨0, a, by omega, rfl, Lib.hid rfl, rfl, Lib.hid rfl⟩
  case round =>
    obtain ⟨j, z, hj, rfl, hw, rfl, hz⟩ := hrel
    obtain rfl := hw.out
    by_cases hlt : j < n
    · have hc := HC.out j hlt
      have hs := Lib.hid (minL_snoc l j (by rw [HN.out]; exact hlt) a)
      generalize l.getD j 0 = x at hc hs
      clear h0
      go_wp2_with fail
      all_goals
        go_roundw
        case rel =>
          refine ⟨j + 1, _, by omega, by go_num, Lib.hid trivial, rfl, Lib.hid ?_⟩
          rw [hs.out, ← hz.out]
          omega
        case measure => simp [intOf] <;> omega
    · obtain rfl : j = n := by omega
      obtain ⟨w0, hw0⟩ : ∃ w0, w0 = wr := ⟨_, rfl⟩
      subst hw0
      have hzz := hz.out
      rw [List.take_of_length_le (by rw [HN.out]; exact Nat.le_refl _), HA.out] at hzz
      have hzm : z = minL l := hzz
      have HZ := Lib.hid hzm
      have hmx := minL_i64x HU.out (by rw [HN.out]; omega)
      rw [← hzm] at hmx
      clear hzz hzm hz
      go_wp2_with fail
      go_loopw [7, 8] (fun v i wr2 => ∃ k : Nat, k ≤ j ∧ i = .int .i64 k ∧ Hid (wr2.ownsRow w0.heap.size 109 1 v k (((upL l).take k).map (Value.int .u64))) ∧ Hid (Below w0.heap.size w0 wr2) ∧ Hid (nearL l k = true)) (fun _ i _ => j - (intOf i).toNat)
      case atStart => exact ⟨0, by omega, rfl, own_empty w0 _ 1, (Below.refl _ _).alloc (Nat.le_refl _) _, rfl⟩
      case round =>
        obtain ⟨k, hk, rfl, hown, hbw, hok⟩ := hrel
        by_cases hlt2 : k < j
        · have hck := (hbw.out.cell (p := ⟨bb, oo + k, none⟩) hbl).trans (HC.out k hlt2)
          have hy := getD_i64x HU.out k
          have hmy := minL_at l k (by rw [HN.out]; exact hlt2)
          have hup := upL_at l k (by rw [HN.out]; exact hlt2)
          have hts := take_snoc (upL l) k (by rw [upL_len, HN.out]; exact hlt2)
          have hns := nearL_snoc l k (by rw [HN.out]; exact hlt2)
          have hdr := diffR_up (minL l) (l.getD k 0) hmy
          have hbad := nearL_bad l l.length k (by rw [HN.out]; exact hlt2) (Nat.le_refl _)
          rw [hup] at hts
          rw [hok.out, Bool.true_and] at hns
          rw [← HZ.out] at hup hmy hdr hns hts hbad
          obtain ⟨y, hY⟩ : ∃ y, y = l.getD k 0 := ⟨_, rfl⟩
          rw [← hY] at hck hy hmy hup hdr hns hts hbad
          obtain ⟨u, hU⟩ : ∃ u, u = y - z := ⟨_, rfl⟩
          rw [← hU] at hup hdr hns hts hbad
          have HNS := Lib.hid hns; have HTS := Lib.hid hts; have HDR := Lib.hid hdr; have HBAD := Lib.hid hbad
          have hsz := hbw.out.size
          have hu0 : 0 ≤ u := by omega
          clear hns hts hup hU hY hbad h0
          by_cases hbig : u ≥ 9223372036854775808
          · rw [if_pos hbig] at hdr
            have HD := Lib.hid hdr
            have hbd := HBAD.out (by omega)
            have HB := Lib.hid hbd
            clear hdr hbd
            go_wp2_with fail
            refine (refDiff_any _ z y hmx hy 0 false false HD.out).mono ?_; rintro e w2 ⟨rfl, rfl⟩
            go_wp2_with fail
            go_returns
            exact ⟨0, none, 0, 0, by rw [HB.out]; rfl, hbw.out, fun h => by rw [HB.out] at h; cases h⟩
          · rw [if_neg hbig] at hdr
            have HD := Lib.hid hdr
            clear hdr
            go_wp2_with fail
            refine (refDiff_any _ z y hmx hy u false true HD.out).mono ?_; rintro e w2 ⟨rfl, rfl⟩
            go_wp2_with (at_builtin; refine wpList_u64 _ rfl _ _ rfl w0.heap.size _ k _ rfl (hown.out.alloc _) _ 1 1 [_] rfl (ri_one_atp rfl) (by omega) (by simp <;> omega) ?_; intro G c w3 hown3 hgr hcc)
            have hb3 := push_ hbw.out (Nat.le_refl _) hown.out hgr
            rw [← HTS.out] at hown3
            have HO3 := Lib.hid hown3
            clear hown3 hgr
            go_wp2_with fail
            go_roundw
            case rel => exact ⟨k + 1, by omega, by go_num, HO3, hb3, by rw [HNS.out]; exact decide_eq_true (by omega)⟩
            case measure => simp [intOf] <;> omega
        · obtain rfl : k = j := by omega
          have ho := hown.out
          rw [List.take_of_length_le (by rw [upL_len, HN.out]; exact Nat.le_refl _)] at ho
          obtain ⟨G, c, rfl⟩ := own_form ho
          have HO := Lib.hid (Sl.of_own ho)
          have hnear : nearL l l.length = true := by rw [HN.out]; exact hok.out
          have HNE := Lib.hid hnear
          clear ho hown hnear hok
          by_cases hz0 : z = -9223372036854775808
          · have hzb : (z != -9223372036854775808) = false := by simp [hz0]
            have HZ0 := Lib.hid hz0
            clear hz0
            go_wp2_with fail
            go_returns
            exact ⟨z, G, k, c, by rw [HNE.out, ← HZ.out, HZ0.out]; rfl, hbw.out, fun _ => ⟨HZ.out, HO.out⟩⟩
          · have hzb : (z != -9223372036854775808) = true := by simp [hz0]
            have HZ0 := Lib.hid hz0
            clear hz0
            go_wp2_with fail
            go_returns
            exact ⟨z, G, k, c, by rw [HNE.out, ← HZ.out, decide_eq_true HZ0.out]; rfl, hbw.out, fun _ => ⟨HZ.out, HO.out⟩⟩
end Go.Proofs.YtmejoococajikaaGreat

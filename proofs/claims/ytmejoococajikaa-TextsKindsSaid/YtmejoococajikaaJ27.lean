/- Joined texts: PBased. Each has its own head line. No condition beyond those that its theorems state. -/
import Derived.Test.YtmejoococajikaaJ26
import Derived.Test.YtmejoococajikaaJ25
import Derived.Test.YtmejoococajikaaJ15
import Derived.Test.YtmejoococajikaaJ20
set_option linter.unusedVariables false

/- patched.based and its reference: a base as bytes. -/
namespace Go.Proofs.Ytmejoococajikaa
open Go.RowKit

def baseN (b : Int) : Nat := blen b.natAbs / 8 + 1
def baseR (b : Int) : List Int :=
  if b = -9223372036854775808 then []
  else if b < 0 then (bytesOf b.natAbs (baseN b)).set 0 ((bytesOf b.natAbs (baseN b)).getD 0 0 + 128) else bytesOf b.natAbs (baseN b)
theorem baseN_le (b : Int) (hb : I64x b) : 1 ≤ baseN b ∧ baseN b ≤ 9 := by
  have h := blen_64 b.natAbs (by unfold I64x at hb; omega)
  unfold baseN; omega
theorem baseR_len (b : Int) (h : b ≠ -9223372036854775808) : (baseR b).length = baseN b := by
  unfold baseR
  rw [if_neg h]
  split
  · rw [List.length_set, bytesOf_len]
  · rw [bytesOf_len]
theorem base_top (b : Int) : 0 ≤ (bytesOf b.natAbs (baseN b)).getD 0 0 ∧ (bytesOf b.natAbs (baseN b)).getD 0 0 < 128 := by
  have hN : 0 < baseN b := by unfold baseN; omega
  have e : (bytesOf b.natAbs (baseN b)).getD 0 0 = (byteAt b.natAbs (baseN b) 0 : Int) := by
    rw [List.getD, bytesOf_get _ _ _ hN]; rfl
  rw [e]
  refine ⟨Int.natCast_nonneg _, ?_⟩
  unfold byteAt
  have h1 : b.natAbs < 2 ^ blen b.natAbs := blen_lt _
  have h2 : b.natAbs / 256 ^ (baseN b - 1 - 0) < 128 := by
    rw [Nat.div_lt_iff_lt_mul (Nat.pow_pos (by omega)), pow8, show (128 : Nat) = 2 ^ 7 from rfl, ← Nat.pow_add]
    exact Nat.lt_of_lt_of_le h1 (Nat.pow_le_pow_right (by omega) (by unfold baseN; omega))
  rw [Nat.mod_eq_of_lt (by omega)]
  omega
theorem or_128p (x : Int) (h0 : 0 ≤ x) (h : x < 128) : bits BinOp.or IntKind.u8 x 128 = x + 128 := by
  have : ∀ i : Fin 128, bits BinOp.or IntKind.u8 ((i.val : Nat) : Int) 128 = ((i.val : Nat) : Int) + 128 := by decide +kernel
  have h := this ⟨x.toNat, by omega⟩
  rwa [show (((⟨x.toNat, by omega⟩ : Fin 128).val : Nat) : Int) = x from by simp; omega] at h
theorem Ri.set_ {w : World} {k : IntKind} {b o n : Nat} {l : List Int} (h : Ri w k (some ⟨b, o, none⟩) n l) (i : Nat) (hi : i < n) (x : Int) : Ri (w.setCell ⟨b, o + i, none⟩ (.int k x)) k (some ⟨b, o, none⟩) n (l.set i x) := by
  obtain ⟨b', o', e, hb, hc⟩ := h.all (by omega)
  injection e with e; injection e with e1 e2; subst e1 e2
  refine Ri.mk_ (by rw [List.length_set]; exact h.len) (by simpa [World.setCell] using hb) fun j hj => ?_
  by_cases hij : i = j
  · subst hij
    rw [World.cell?_setCell_same _ _ _ (hc i hi), List.getD, List.getElem?_set_self (by rw [h.len]; exact hi)]; rfl
  · rw [World.cell?_setCell_other _ _ _ _ (by intro e; injection e with _ e; omega), hc j hj, List.getD, List.getD, List.getElem?_set_ne hij]
theorem ri_one_atp {w : World} {k : IntKind} {x : Int} {t : TypeId} {g : Nat} (h : g = w.heap.size) : Ri (w.alloc (.cells #[.int k x] t)) k (some ⟨g, 0, none⟩) 1 [x] := by subst h; exact Rd.one _ _ _
theorem base_byte (s N k m : Nat) (h : m + k + 1 = N) : ((s : Int) / 2 ^ (8 * m)) % 256 = (byteAt s N k : Int) := by
  unfold byteAt
  rw [show N - 1 - k = m from by omega, pow8]
  simp
theorem bytes_snoc (s N k m : Nat) (h : m + k + 1 = N) : (bytesOf s N).take (k + 1) = (bytesOf s N).take k ++ [((s : Int) / 2 ^ (8 * m)) % 256] := by
  rw [base_byte s N k m h, List.take_succ_eq_append_getElem (by rw [bytesOf_len]; omega)]
  simp [bytesOf]
theorem diff_base (b : Int) (hb : I64x b) (h : b ≠ -9223372036854775808) : diffR 0 b = ((b.natAbs : Int), decide (b < 0), true) := by
  unfold I64x at hb
  unfold diffR
  by_cases hlt : b < 0
  · rw [if_pos hlt, if_neg (by omega), show (0 : Int) - b = (b.natAbs : Int) from by omega]
  · rw [if_neg hlt, if_neg (by omega), show b - 0 = (b.natAbs : Int) from by omega]

set_option maxRecDepth 100000 in
set_option maxHeartbeats 1000000 in
theorem based_bad (w : World) : Calls Try.prog 101 #[.int .i64 (-9223372036854775808)] w fun e w' => e = .returned (.slice none 0 0) ∧ Below w.heap.size w w' := by
  go_enter Try.func101, Try.ntmps101
  go_wp2_with fail
  refine (Diff_any _ 0 (-9223372036854775808) (by unfold I64x; omega) (by unfold I64x; omega) 0 false false (by decide)).mono ?_; rintro e w2 ⟨rfl, hb2⟩
  go_wp2_with fail
  go_returns
  exact ⟨rfl, hb2⟩

set_option maxRecDepth 100000 in
set_option maxHeartbeats 1000000 in
theorem based_any (w : World) (b : Int) (hb : I64x b) (hne : b ≠ -9223372036854775808) : Calls Try.prog 101 #[.int .i64 b] w (BytesOut w (baseR b)) := by
  have hd := diff_base b hb hne
  have HN := baseN_le b hb
  have hlen := bytesOf_len b.natAbs (baseN b)
  have htop := base_top b
  have hor := or_128p _ htop.1 htop.2
  have hres : baseR b = if b < 0 then (bytesOf b.natAbs (baseN b)).set 0 ((bytesOf b.natAbs (baseN b)).getD 0 0 + 128) else bytesOf b.natAbs (baseN b) := by unfold baseR; rw [if_neg hne]
  have HD := Lib.hid hd; have HRES := Lib.hid hres
  have hs : b.natAbs ≤ 9223372036854775808 := by unfold I64x at hb; omega
  have hbl : baseN b = blen b.natAbs / 8 + 1 := rfl
  have hblen := blen_64 b.natAbs (by omega)
  obtain ⟨s, hse⟩ : ∃ s, s = b.natAbs := ⟨_, rfl⟩
  obtain ⟨N, hNe⟩ : ∃ N, N = baseN b := ⟨_, rfl⟩
  rw [← hse] at hs hlen htop hor hblen
  rw [← hNe] at HN hlen htop hor
  rw [← hNe, ← hse] at hbl
  obtain ⟨f, hf⟩ : ∃ f, f = decide (b < 0) := ⟨_, rfl⟩
  have HF := Lib.hid hf; have HSE := Lib.hid hse; have HNE := Lib.hid hNe
  have HLEN := Lib.hid hlen
  obtain ⟨L, hLe⟩ : ∃ L, L = bytesOf s N := ⟨_, rfl⟩
  rw [← hLe] at htop hor
  have HL := Lib.hid hLe; have HOR := Lib.hid hor
  obtain ⟨q, hq⟩ : ∃ q, q = blen s := ⟨_, rfl⟩
  rw [← hq] at hbl hblen
  have HQ := Lib.hid hq
  clear hd hres hne hse hNe hf hlen hLe hor hq
  go_enter Try.func101, Try.ntmps101
  go_wp2_with fail
  refine (Diff_any _ 0 b (by unfold I64x; omega) hb s f true (by rw [HD.out, HSE.out, HF.out])).mono ?_; rintro e w2 ⟨rfl, hb2⟩
  have HB2 := Lib.hid hb2; clear hb2
  go_wp2_with fail
  refine (Bits_any (s : Int) _ (by omega) (by omega)).mono ?_; rintro e w' ⟨rfl, rfl⟩
  rw [Int.toNat_natCast, ← HQ.out]
  go_wp2_with fail
  go_loopw [6, 7] (fun v i wr => ∃ k : Nat, k ≤ N ∧ i = .int .i64 ((N : Int) - 1 - k) ∧ Hid (wr.ownsRow w.heap.size 5 1 v k ((L.take k).map (Value.int .u8))) ∧ Hid (Below w.heap.size w wr)) (fun _ i _ => (intOf i + 1).toNat)
  case atStart => exact ⟨0, by omega, by congr 1; omega, World.ownsRow_nil _ _ _ _, HB2⟩
  case round =>
    clear hbl
    obtain ⟨k, hk, rfl, hown, hbw⟩ := hrel
    by_cases hlt : k < N
    · obtain ⟨m, hm⟩ : ∃ m : Nat, m + k + 1 = N := ⟨N - 1 - k, by omega⟩
      rw [show (N : Int) - 1 - k = (m : Int) from by omega]
      have hsn := bytes_snoc s N k m hm
      rw [← HL.out] at hsn
      have HSN := Lib.hid hsn
      have hsz := hbw.out.size
      clear hsn
      go_wp2_with (at_builtin; refine wpList_u8 _ rfl _ _ rfl w.heap.size _ k _ rfl (hown.out.alloc _) _ 1 1 [_] rfl (ri_one_atp rfl) (by omega) (by simp; omega) ?_; intro G c w3 hown3 hgr hcc)
      have hb3 := push_ hbw.out (Nat.le_refl _) hown.out hgr
      rw [← HSN.out] at hown3
      have HO3 := Lib.hid hown3
      clear hown3 hgr
      go_wp2_with fail
      go_roundw
      case rel => exact ⟨k + 1, by omega, by congr 1; omega, HO3, hb3⟩
      case measure => simp [intOf] <;> omega
    · obtain rfl : k = N := by omega
      have ho := hown.out
      rw [List.take_of_length_le (by rw [HL.out, HLEN.out]; exact Nat.le_refl _)] at ho
      rcases ho.2 with ⟨_, h0⟩ | ⟨g, cg, cur, rfl, hh⟩
      · omega
      · have hsl := Sl.of_own ho
        have HS := Lib.hid hsl
        obtain ⟨b', o', e, hbb, hcc⟩ := hsl.1.all (by omega)
        injection e with e; injection e with e1 e2; subst e1 e2
        have c0 := hcc 0 (by omega)
        rw [Nat.add_zero] at c0
        have f0 := (show Blk wr g _ cur from hh.2.1).frozen 0
        have hcp := own_cap ho
        have hge := (ho.lt g rfl).1
        clear hcc hh ho hown
        cases f
        · have hb0 : ¬ b < 0 := of_decide_eq_false HF.out.symm
          go_wp2_with fail
          go_ret
          rw [HRES.out, if_neg (by omega), ← HNE.out, ← HSE.out, ← HL.out]
          exact ⟨_, _, _, rfl, HS.out, hbw.out⟩
        · have hb0 : b < 0 := of_decide_eq_true HF.out.symm
          obtain ⟨y, hy⟩ : ∃ y, y = L.getD 0 0 := ⟨_, rfl⟩
          rw [← hy] at c0 htop
          have HY := Lib.hid hy
          clear hy
          go_wp2_with fail
          go_ret
          rw [HRES.out, if_pos hb0, ← HNE.out, ← HSE.out, ← HL.out, ← HOR.out, ← HY.out]
          have hset : Ri (wr.setCell ⟨g, 0, none⟩ (.int .u8 (bits BinOp.or IntKind.u8 y 128))) .u8 (some ⟨g, 0, none⟩) k (L.set 0 (bits BinOp.or IntKind.u8 y 128)) := HS.out.1.set_ 0 (by omega) (bits BinOp.or IntKind.u8 y 128)
          exact ⟨_, _, _, rfl, ⟨hset, HS.out.2⟩, hbw.out.setCell hge _⟩

end Go.Proofs.Ytmejoococajikaa

/- Joined texts: PlainPd. Each has its own head line. No condition beyond those that its theorems state. -/
import Derived.Test.YtmejoococajikaaGreatJ19
import Derived.Test.YtmejoococajikaaGreatJ25
import Derived.Test.YtmejoococajikaaGreatJ28
set_option linter.unusedVariables false

/- Patched: numbers that were laid down are taken as they were. -/
namespace Go.Proofs.YtmejoococajikaaGreat
open Go.RowKit

theorem xor_nat (u x : Nat) : (u % 2 ^ x) ^^^ (u / 2 ^ x * 2 ^ x) = u := by
  apply Nat.eq_of_testBit_eq
  intro i
  rw [Nat.testBit_xor, Nat.testBit_mod_two_pow, Nat.mul_comm, Nat.testBit_two_pow_mul, Nat.testBit_div_two_pow]
  by_cases h : i < x
  · simp [h, Nat.not_le.2 h]
  · rw [Nat.sub_add_cancel (by omega)]
    simp [h, Nat.le_of_not_lt h]
theorem xor_back (u : Int) (x : Nat) (hu : 0 ≤ u ∧ u < 18446744073709551616) : bits BinOp.xor IntKind.u64 (u % 2 ^ x) (IntKind.u64.wrap (u / 2 ^ x * 2 ^ x)) = u := by
  obtain ⟨n, rfl⟩ := Int.eq_ofNat_of_zero_le hu.1
  have h1 : n % 2 ^ x ≤ n := Nat.mod_le _ _
  have h2 : n / 2 ^ x * 2 ^ x ≤ n := Nat.div_mul_le_self _ _
  have e1 : (n : Int) % 2 ^ x = ((n % 2 ^ x : Nat) : Int) := by simp
  have e2 : (n : Int) / 2 ^ x * 2 ^ x = ((n / 2 ^ x * 2 ^ x : Nat) : Int) := by simp
  have e3 : IntKind.u64.wrap ((n / 2 ^ x * 2 ^ x : Nat) : Int) = ((n / 2 ^ x * 2 ^ x : Nat) : Int) := by rw [IntKind.wrap_u64]; omega
  rw [e1, e2, e3, u64_xor_nat _ _ (by omega) (by omega), xor_nat]
theorem xor_none (v : Int) (W : Nat) (hv : 0 ≤ v ∧ v < 18446744073709551616) : bits BinOp.xor IntKind.u64 v (IntKind.u64.wrap (0 * 2 ^ W)) = v := by
  obtain ⟨n, rfl⟩ := Int.eq_ofNat_of_zero_le hv.1
  rw [Int.zero_mul, show IntKind.u64.wrap 0 = ((0 : Nat) : Int) from rfl, u64_xor_nat _ _ (by omega) (by omega), Nat.xor_zero]
/-- The patches one behind the other. -/
def patchF (K g W : Nat) : List Int → List Int × Nat → Option (List Int × Nat)
  | [], s => some s
  | x :: t, s => (patchStep K g W s.1 s.2 x).bind (patchF K g W t)
theorem patchF_app (K g W : Nat) (A B : List Int) : ∀ s, patchF K g W (A ++ B) s = (patchF K g W A s).bind (patchF K g W B) := by
  induction A with
  | nil => intro s; rfl
  | cons x t ih =>
    intro s
    simp only [List.cons_append, patchF]
    cases patchStep K g W s.1 s.2 x with
    | none => rfl
    | some q => exact ih q
theorem patchN_F (K g W : Nat) (low both : List Int) (j : Nat) (h : j ≤ both.length) : patchN K g W low both j = patchF K g W (both.take j) (low, 0) := by
  induction j with
  | zero => rw [List.take_zero]; rfl
  | succ j ih =>
    rw [patchN, ih (by omega), take_snoc both j (by omega), patchF_app]
    congr 1
    funext s
    show _ = (patchStep K g W s.1 s.2 _).bind (patchF K g W [])
    cases patchStep K g W s.1 s.2 (both.getD j 0) <;> rfl
theorem both_parts (a b : Int) (K : Nat) (h : 0 ≤ b ∧ b < 2 ^ K) : (a * 2 ^ K + b) / 2 ^ K = a ∧ (a * 2 ^ K + b) % 2 ^ K = b := by
  have hk : (0 : Int) < 2 ^ K := Int.pow_pos (by decide)
  constructor
  · rw [Int.add_comm, Int.add_mul_ediv_right _ _ (by omega), Int.ediv_eq_zero_of_lt h.1 h.2, Int.zero_add]
  · rw [Int.add_comm, Int.add_mul_emod_self_right, Int.emod_eq_of_lt h.1 h.2]
theorem patchStep_pair (K g W : Nat) (low : List Int) (a d : Nat) (b : Int) (hb : 0 ≤ b ∧ b < 2 ^ K) (hd : (d : Int) < 2 ^ g) (ha : a + d < low.length) (hw : b = 0 ∨ blen b.toNat + W < 64) :
    patchStep K g W low a (d * 2 ^ K + b) = some (low.set (a + d) (bits BinOp.xor IntKind.u64 (low.getD (a + d) 0) (IntKind.u64.wrap (b * 2 ^ W))), a + d) := by
  obtain ⟨h1, h2⟩ := both_parts d b K hb
  have h := @patchStep_ok K g W low a (d * 2 ^ K + b)
  rw [h1, h2, Int.toNat_natCast] at h
  exact h hd ha hw
theorem set_self (l : List Int) (i : Nat) (h : i < l.length) : l.set i (l.getD i 0) = l := by
  simp [List.getD, List.getElem?_eq_getElem h]
theorem patchF_fill (K g W : Nat) (l : List Int) (hl : U64 l) : ∀ (m a : Nat), (m = 0 ∨ (255 : Int) < 2 ^ g) → (m = 0 ∨ a + 255 * m < l.length) → patchF K g W (List.replicate m (255 * 2 ^ K + 0)) (l, a) = some (l, a + 255 * m) := by
  intro m
  induction m with
  | zero => intro a _ _; rfl
  | succ m ih =>
    intro a hg h
    rw [List.replicate_succ]
    simp only [patchF]
    have hk : (0 : Int) < 2 ^ K := Int.pow_pos (by decide)
    have h1 := patchStep_pair K g W l a 255 0 ⟨Int.le_refl _, hk⟩ (by omega) (by omega) (.inl rfl)
    rw [xor_none _ _ (hl _ (getD_mem l _ (by omega))), set_self l _ (by omega)] at h1
    rw [show ((255 : Int) * 2 ^ K + 0) = ((255 : Nat) : Int) * 2 ^ K + 0 from rfl, h1, Option.bind_some]
    rw [show ((255 : Nat) : Int) * 2 ^ K + 0 = (255 : Int) * 2 ^ K + 0 from rfl, ih (a + 255) (by omega) (by omega), show a + 255 + 255 * m = a + 255 * (m + 1) from by omega]
/-- The first i numbers as they were, the others without what is above. -/
def mixL (u : List Int) (x i : Nat) : List Int := u.take i ++ (lowL u x).drop i
theorem lowL_len (u : List Int) (x : Nat) : (lowL u x).length = u.length := by simp [lowL]
theorem lowL_at (u : List Int) (x i : Nat) (h : i < u.length) : (lowL u x).getD i 0 = u.getD i 0 % 2 ^ x := by
  simp [lowL, List.getD, List.getElem?_map, List.getElem?_eq_getElem h]
theorem mixL_len (u : List Int) (x i : Nat) (h : i ≤ u.length) : (mixL u x i).length = u.length := by
  unfold mixL; rw [List.length_append, List.length_take, List.length_drop, lowL_len]; omega
theorem mixL_form (u : List Int) (x i : Nat) (h : i < u.length) : mixL u x i = u.take i ++ (u.getD i 0 % 2 ^ x) :: (lowL u x).drop (i + 1) := by
  unfold mixL
  have hl : i < (lowL u x).length := by rw [lowL_len]; exact h
  rw [List.drop_eq_getElem_cons hl]
  have e := lowL_at u x i h
  rw [← e]
  simp [List.getD, List.getElem?_eq_getElem hl]
theorem mixL_at (u : List Int) (x i : Nat) (h : i < u.length) : (mixL u x i).getD i 0 = u.getD i 0 % 2 ^ x := by
  rw [mixL_form u x i h]
  have hl : (u.take i).length = i := by rw [List.length_take]; omega
  simp only [List.getD]
  rw [List.getElem?_append_right (by omega), hl, Nat.sub_self]
  rfl
theorem mixL_set (u : List Int) (x i : Nat) (h : i < u.length) : (mixL u x i).set i (u.getD i 0) = mixL u x (i + 1) := by
  rw [mixL_form u x i h]
  have hl : (u.take i).length = i := by rw [List.length_take]; omega
  rw [List.set_append_right _ _ (by omega), hl, Nat.sub_self, List.set_cons_zero]
  unfold mixL
  rw [take_snoc u i h, List.append_assoc]
  rfl
theorem mixL_same (u : List Int) (x i : Nat) (h : i < u.length) (h0 : u.getD i 0 % 2 ^ x = u.getD i 0) : mixL u x (i + 1) = mixL u x i := by
  rw [← mixL_set u x i h]
  have e := mixL_at u x i h
  rw [h0] at e
  rw [← e]
  exact set_self _ i (by rw [mixL_len u x i (by omega)]; exact h)
theorem mixL_u64 (u : List Int) (hu : U64 u) (x i : Nat) : U64 (mixL u x i) := by
  intro y hy
  rcases List.mem_append.1 hy with h | h
  · exact hu y (List.mem_of_mem_take h)
  · have h := List.mem_of_mem_drop h
    obtain ⟨q, hq, rfl⟩ := List.mem_map.1 h
    have hk : (0 : Int) < 2 ^ x := Int.pow_pos (by decide)
    have h1 := hu q hq
    have h2 : q % 2 ^ x ≤ q := by
      have h3 := Int.ediv_mul_add_emod q (2 ^ x)
      have h4 : 0 ≤ q / 2 ^ x * 2 ^ x := Int.mul_nonneg (Int.ediv_nonneg h1.1 (by omega)) (by omega)
      omega
    exact ⟨Int.emod_nonneg _ (by omega), by omega⟩
theorem boP_app (A B : List (Int × Int)) (K : Nat) : boP (A ++ B) K = boP A K ++ boP B K := by simp [boP]
theorem blen_top (q : Int) (x : Nat) (h0 : 0 ≤ q) (h : q < 9223372036854775808) (hx : x < 64) : q / 2 ^ x = 0 ∨ blen (q / 2 ^ x).toNat + x < 64 := by
  obtain ⟨n, rfl⟩ := Int.eq_ofNat_of_zero_le h0
  have e : (n : Int) / 2 ^ x = ((n / 2 ^ x : Nat) : Int) := by simp
  rw [e, Int.toNat_natCast]
  have h1 : n / 2 ^ x < 2 ^ (63 - x) := by
    rw [Nat.div_lt_iff_lt_mul (Nat.two_pow_pos _), ← Nat.pow_add, show 63 - x + x = 63 from by omega]
    omega
  have := blen_le _ _ h1
  omega
theorem pairs_back (u : List Int) (hu : ∀ y ∈ u, 0 ≤ y ∧ y < 9223372036854775808) (x : Nat) (hx : x < 64) (K g : Nat) : ∀ i, i ≤ u.length → PairsK (pairsN u x i).1 g K → patchF K g x (boP (pairsN u x i).1 K) (lowL u x, 0) = some (mixL u x i, (pairsN u x i).2) := by
  have hu64 : U64 u := fun y hy => by have := hu y hy; omega
  intro i
  induction i with
  | zero => intro _ _; simp [pairsN, boP, patchF, mixL]
  | succ i ih =>
    intro hi hP
    have hq := hu _ (getD_mem u i (by omega))
    by_cases h0 : u.getD i 0 / 2 ^ x = 0
    · rw [pairsN_zero u x i h0] at hP ⊢
      rw [ih (by omega) hP, mixL_same u x i (by omega)]
      have h := Int.ediv_mul_add_emod (u.getD i 0) (2 ^ x)
      rw [h0, Int.zero_mul, Int.zero_add] at h
      exact h
    · rw [pairsN_some u x i h0] at hP ⊢
      have hlast := pairsN_last u x i
      have hP1 : PairsK (pairsN u x i).1 g K := fun q hq => hP q (by unfold gapsAt; simp [hq])
      have hPl := hP (((i - (pairsN u x i).2 - 255 * ((i - (pairsN u x i).2 - 1) / 255) : Nat) : Int), u.getD i 0 / 2 ^ x) (by unfold gapsAt; simp)
      have hPf : (i - (pairsN u x i).2 - 1) / 255 = 0 ∨ (255 : Int) < 2 ^ g := by
        by_cases hm : (i - (pairsN u x i).2 - 1) / 255 = 0
        · exact .inl hm
        · exact .inr (hP (255, 0) (by unfold gapsAt; simp [List.mem_replicate, hm])).2.1
      have ih := ih (by omega) hP1
      generalize (pairsN u x i).1 = P at *
      generalize (pairsN u x i).2 = last at *
      generalize hm : (i - last - 1) / 255 = m at *
      unfold gapsAt
      rw [hm, boP_app, boP_app, patchF_app, patchF_app, ih, Option.bind_some]
      rw [show boP (List.replicate m (255, 0)) K = List.replicate m (255 * 2 ^ K + 0) from by simp [boP]]
      rw [patchF_fill K g x _ (mixL_u64 u hu64 x i) m last hPf (by rw [mixL_len u x i (by omega)]; omega), Option.bind_some]
      simp only [boP, List.map_cons, List.map_nil, patchF]
      have hst := patchStep_pair K g x (mixL u x i) (last + 255 * m) (i - last - 255 * m) (u.getD i 0 / 2 ^ x) ⟨hPl.2.2.1, hPl.2.2.2⟩ hPl.2.1 (by rw [mixL_len u x i (by omega)]; omega) (blen_top _ x hq.1 hq.2 hx)
      rw [show last + 255 * m + (i - last - 255 * m) = i from by omega, mixL_at u x i (by omega), xor_back _ x (by omega), mixL_set u x i (by omega)] at hst
      rw [hst, Option.bind_some]
theorem mixL_full (u : List Int) (x : Nat) : mixL u x u.length = u := by
  unfold mixL
  rw [List.take_of_length_le (Nat.le_refl _), List.drop_of_length_le (by rw [lowL_len]; exact Nat.le_refl _), List.append_nil]
/-- Gaps are at most 255. -/
theorem gaps255 (u : List Int) (x j : Nat) : ∀ q ∈ (pairsN u x j).1, q.1 ≤ 255 := by
  induction j with
  | zero => intro q hq; simp [pairsN] at hq
  | succ j ih =>
    intro q hq
    rw [pairsN] at hq
    split at hq
    · exact ih q hq
    · unfold gapsAt at hq
      rcases List.mem_append.1 hq with h1 | h1
      · rcases List.mem_append.1 h1 with h2 | h2
        · exact ih q h2
        · rw [List.mem_replicate] at h2; rw [h2.2]; decide
      · rw [List.mem_singleton] at h1; subst h1; simp only; omega
theorem mostBits_small (l : List Int) (k : Nat) (h : ∀ y ∈ l, blen y.toNat ≤ k) : mostBits l ≤ k := by
  have key : ∀ (l : List Int) (m : Nat), m ≤ k → (∀ y ∈ l, blen y.toNat ≤ k) → l.foldl (fun m x => max m (blen x.toNat)) m ≤ k := by
    intro l
    induction l with
    | nil => intro m hm _; exact hm
    | cons a t ih =>
      intro m hm h
      rw [List.foldl_cons]
      have := h a List.mem_cons_self
      exact ih _ (by omega) fun y hy => h y (List.mem_cons_of_mem _ hy)
  exact key l 0 (Nat.zero_le _) h
theorem gN8 (l : List Int) (x : Nat) : gN (prL l x) ≤ 8 := by
  have h := mostBits_small ((prL l x).map Prod.fst) 8 (by
    intro y hy
    obtain ⟨q, hq, rfl⟩ := List.mem_map.1 hy
    have := gaps255 (upL l) x l.length q hq
    exact blen_le _ 8 (by omega))
  unfold gN; omega
theorem bytesOf_getD0 (X N : Nat) : 0 ≤ (bytesOf X N).getD 0 0 := by
  simp only [List.getD]
  cases h : (bytesOf X N)[0]? with
  | none => exact Int.le_refl _
  | some y => exact (bytesOf_u8 X N y (List.mem_of_getElem? h)).1
theorem numR_base (b : Int) (hb : I64x b) (hne : b ≠ -9223372036854775808) : numR (baseR b) = b ∧ U8 (baseR b) := by
  have hlen := baseR_len b hne
  have hn := baseN_le b hb
  obtain ⟨ht0, ht1⟩ := base_top b
  have hbl := bytesOf_len b.natAbs (baseN b)
  have hu8 := bytesOf_u8 b.natAbs (baseN b)
  have hX : b.natAbs < 256 ^ baseN b := by
    have h := blen_lt b.natAbs
    rw [pow8]
    exact Nat.lt_of_lt_of_le h (Nat.pow_le_pow_right (by omega) (by unfold baseN; omega))
  have hpv := packV_bytesOf b.natAbs (baseN b) hX
  have hfm : bytesOf b.natAbs (baseN b) = (bytesOf b.natAbs (baseN b)).getD 0 0 :: (bytesOf b.natAbs (baseN b)).drop 1 := by
    have h0 : 0 < (bytesOf b.natAbs (baseN b)).length := by omega
    have h := List.drop_eq_getElem_cons h0
    rw [List.drop_zero] at h
    rw [show (bytesOf b.natAbs (baseN b)).getD 0 0 = (bytesOf b.natAbs (baseN b))[0] from by simp [List.getD, List.getElem?_eq_getElem h0]]
    exact h
  have hud : U8 ((bytesOf b.natAbs (baseN b)).drop 1) := fun y hy => hu8 y (List.mem_of_mem_drop hy)
  unfold I64x at hb
  unfold baseR
  rw [if_neg hne]
  generalize bytesOf b.natAbs (baseN b) = B at *
  generalize B.getD 0 0 = y at *
  generalize B.drop 1 = t at *
  subst hfm
  unfold numR topB stepR
  by_cases hneg : b < 0
  · rw [if_pos hneg, List.set_cons_zero]
    simp only [List.getD_cons_zero, List.drop_succ_cons, List.drop_zero]
    rw [show (y + 128) % 128 = y from by omega, hpv, decide_eq_true (show 128 ≤ y + 128 by omega)]
    refine ⟨?_, fun z hz => ?_⟩
    · rw [if_neg (by omega), if_pos rfl, if_neg (by omega)]
      dsimp only; omega
    · rcases List.mem_cons.1 hz with rfl | hz
      · omega
      · exact hud z hz
  · rw [if_neg hneg]
    simp only [List.getD_cons_zero, List.drop_succ_cons, List.drop_zero]
    rw [show y % 128 = y from by omega, hpv, decide_eq_false (show ¬ 128 ≤ y by omega)]
    refine ⟨?_, hu8⟩
    rw [if_neg (by omega), if_neg (by simp), if_neg (by omega)]
    dsimp only; omega
theorem stepR_up (m y : Int) (_hm : I64x m) (hy : I64x y) (h0 : m ≤ y) (h : y - m < 9223372036854775808) : stepR m (y - m) false = (y, true) := by
  unfold stepR
  unfold I64x at hy
  rw [if_neg (by omega), if_neg (by simp), if_neg (by omega)]
  rw [show m + (y - m) = y from by omega]
theorem upL_back (l : List Int) (hu : I64 l) (s : Bool) (hs : s = true ∨ ∀ y ∈ l, 0 ≤ y) (hn : nearL l l.length = true) : (upL l).all (sumOk (minL l) s) = true ∧ sumL (minL l) (upL l) = l := by
  have hst : ∀ y ∈ l, stepR (minL l) (y - minL l) false = (y, true) := by
    intro y hy
    have h0 := (minL_le l (l.getD 0 0)).2 y hy
    have h3 : 0 < l.length := List.length_pos_of_mem hy
    refine stepR_up _ _ (minL_i64x hu h3) (hu y hy) h0 ?_
    unfold nearL at hn
    rw [List.take_of_length_le (Nat.le_refl _)] at hn
    have := List.all_eq_true.1 hn y hy
    simpa using this
  constructor
  · refine List.all_eq_true.2 fun z hz => ?_
    obtain ⟨y, hy, rfl⟩ := List.mem_map.1 hz
    unfold sumOk
    rw [hst y hy]
    rcases hs with rfl | hs
    · simp
    · simp [hs y hy]
  · unfold sumL upL
    rw [List.map_map]
    conv => rhs; rw [← List.map_id l]
    exact List.map_congr_left fun y hy => by simp only [Function.comp, hst y hy, id]
theorem wOf_wCode (x : Int) (h : 0 ≤ wCode x) : wOf (wCode x) = x ∧ wCode x ≤ 31 ∧ 1 ≤ x ∧ x ≤ 64 := by
  obtain ⟨c, hc⟩ : ∃ c, c = wCode x := ⟨_, rfl⟩
  obtain ⟨v, hv⟩ : ∃ v, v = wOf c := ⟨_, rfl⟩
  rw [← hc] at h ⊢
  rw [← hv]
  unfold wCode at hc
  unfold wOf at hv
  omega
theorem pa_put (l : List Int) (x : Int) (s : Bool) : (putPa l x s = ([], 1)) ∨ (prePa l x s = false ∧ okPa l x.toNat = true) := by
  unfold putPa
  cases h1 : prePa l x s
  · cases h2 : okPa l x.toNat
    · exact .inl rfl
    · exact .inr ⟨rfl, rfl⟩
  · exact .inl rfl
theorem pre_parts {l : List Int} {x : Int} {s : Bool} (h : prePa l x s = false) : 1 ≤ l.length ∧ l.length ≤ 512 ∧ (s = true ∨ ∀ y ∈ l, 0 ≤ y) ∧ 0 ≤ wCode x ∧ x < 64 := by
  unfold prePa at h
  simp only [Bool.or_eq_false_iff, decide_eq_false_iff_not, Bool.and_eq_false_iff, Bool.not_eq_false'] at h
  obtain ⟨⟨⟨⟨h1, h2⟩, h3⟩, h4⟩, h5⟩ := h
  refine ⟨by omega, by omega, ?_, by omega, by omega⟩
  rcases h3 with h3 | h3
  · exact .inl h3
  · refine .inr fun y hy => ?_
    have := List.any_eq_false.1 h3 y hy
    simpa using this
/-- Patched numbers are taken as they were, whatever stands behind. -/
theorem pa_back (l : List Int) (hu : I64 l) (x : Int) (s : Bool) (hpre : prePa l x s = false) (hok : okPa l x.toNat = true) :
    ∃ p, putPa l x s = (p, 0) ∧ U8 p ∧ p.length ≤ 12000 ∧ ∀ q, takePa (p ++ q) s = (l, q, 0) := by
  obtain ⟨h1, hn, hs, hw0, hx64⟩ := pre_parts hpre
  obtain ⟨hwx, hw31, hx1, _⟩ := wOf_wCode x hw0
  obtain ⟨X, rfl⟩ := Int.eq_ofNat_of_zero_le (show 0 ≤ x by omega)
  rw [Int.toNat_natCast] at hok
  unfold okPa at hok
  simp only [Bool.and_eq_true, decide_eq_true_eq] at hok
  obtain ⟨⟨hnear, hfits⟩, hmin⟩ := hok
  obtain ⟨r, er, hl⟩ : ∃ r er, putPa l X s = (r, er) := ⟨_, _, rfl⟩
  obtain ⟨rfl, K, gg, C, Pl, Pb, eK, eg, ep, ec, hg1, hK1, hcK, hgK, hXK, hgC, hC, hp31, hPK, hlu, hPl, hPll, hbu, hPb, hPbl, hr⟩ := putPa_good hu hn h1 (by omega) hpre hnear hfits hmin hl
  have hg8 := gN8 l X
  rw [eg] at hg8
  have hmi := minL_i64x hu h1
  obtain ⟨hnum, hbu8⟩ := numR_base (minL l) hmi hmin
  have hbl := baseR_len (minL l) hmin
  have hbn := baseN_le (minL l) hmi
  have hbn8 : baseN (minL l) ≤ 8 := by
    unfold I64x at hmi
    have := blen_le (minL l).natAbs 63 (by omega)
    unfold baseN; omega
  obtain ⟨hwK, hK31, _, _⟩ := wOf_wCode K hcK
  have hlr := low_room (upL l) (upL_u64 hu) X (by omega)
  have hbr := boP_room hPK hgK C hgC
  have hll : (lowL (upL l) X).length = l.length := by rw [hlr.2.2, upL_len]
  have hbl2 : (boP (prL l X) K).length = (prL l X).length := boP_len _ _
  subst hr
  have hc0 : (32 * ((baseN (minL l) : Int) - 1) + wCode K) % 256 = 32 * ((baseN (minL l) : Int) - 1) + wCode K := by omega
  have hd0 : (32 * ((gg : Int) - 1) + (prL l X).length) % 256 = 32 * ((gg : Int) - 1) + (prL l X).length := by omega
  have hP8 : U8 Pl := by
    obtain ⟨p, hp, h8, _, _⟩ := pack_back (lowL (upL l) X) [] X (by omega) (by omega) hlr.1 hlr.2.1
    rw [hPl] at hp; injection hp with hp _; subst hp; exact h8
  have hB8 : U8 Pb := by
    obtain ⟨p, hp, h8, _, _⟩ := pack_back (boP (prL l X) K) [] C hC (by omega) hbr.1 hbr.2
    rw [hPb] at hp; injection hp with hp _; subst hp; exact h8
  refine ⟨_, hl, ?_, ?_, fun q => ?_⟩
  · intro y hy
    rcases List.mem_append.1 hy with hy | hy
    · rcases List.mem_append.1 hy with hy | hy
      · rcases List.mem_append.1 hy with hy | hy
        · rcases List.mem_append.1 hy with hy | hy
          · exact (head_u8 _ _ _).1 y hy
          · rcases List.mem_cons.1 hy with rfl | hy
            · omega
            · rw [List.mem_singleton] at hy; omega
        · exact hbu8 y hy
      · exact hP8 y hy
    · exact hB8 y hy
  · have := (head_u8 2 (wCode X) l.length).2
    simp only [List.length_append, List.length_cons, List.length_nil]
    omega
  · obtain ⟨p1, hp1, _, _, hun1⟩ := pack_back (lowL (upL l) X) (Pb ++ q) X (by omega) (by omega) hlr.1 hlr.2.1
    obtain rfl : Pl = p1 := (Prod.mk.inj (hPl.symm.trans hp1)).1
    obtain ⟨p2, hp2, _, _, hun2⟩ := pack_back (boP (prL l X) K) q C hC (by omega) hbr.1 hbr.2
    obtain rfl : Pb = p2 := (Prod.mk.inj (hPb.symm.trans hp2)).1
    have hlk := look_head (wCode X) l.length ([32 * ((baseN (minL l) : Int) - 1) + wCode K, 32 * ((gg : Int) - 1) + (prL l X).length] ++ (baseR (minL l) ++ (Pl ++ (Pb ++ q)))) (by omega) (by omega) 2 (by omega)
    have hhl : headR 2 (wCode X) l.length = [(16384 * 2 + 512 * wCode X + l.length - 1) / 256, (16384 * 2 + 512 * wCode X + l.length - 1) % 256] := by
      unfold headR; rw [if_pos (by omega)]
    rw [hc0, hd0]
    simp only [List.append_assoc]
    unfold takePa
    rw [hlk, hhl]
    simp only [List.cons_append, List.nil_append, List.length_cons, List.getD_cons_succ, List.getD_cons_zero, List.drop_succ_cons, List.drop_zero]
    rw [if_neg (by omega)]
    rw [show ((32 * ((baseN (minL l) : Int) - 1) + wCode K) / 32 + 1).toNat = baseN (minL l) from by omega, show (32 * ((baseN (minL l) : Int) - 1) + wCode K) % 32 = wCode K from by omega,
      show ((32 * ((gg : Int) - 1) + (prL l X).length) / 32 + 1).toNat = gg from by omega, show (32 * ((gg : Int) - 1) + (prL l X).length) % 32 = ((prL l X).length : Int) from by omega, hwK, hwx, Int.toNat_natCast, Int.toNat_natCast]
    unfold takeP2
    rw [if_neg (by rw [List.length_append]; omega), List.take_append_of_le_length (by omega), List.take_of_length_le (by omega), List.drop_append_of_le_length (by omega), List.drop_of_length_le (by omega), List.nil_append, hnum]
    rw [hll] at hun1
    rw [hbl2] at hun2
    rw [hun1]
    unfold takeP2b
    rw [if_neg (by simp)]
    dsimp only
    rw [ec, hun2]
    unfold takeP3
    rw [if_neg (by simp), Int.toNat_natCast]
    dsimp only
    rw [patchN_F K gg X _ _ _ (by omega), List.take_of_length_le (by omega)]
    have hpb := pairs_back (upL l) (by
      intro y hy
      obtain ⟨z, hz, rfl⟩ := List.mem_map.1 hy
      have h3 := (minL_le l (l.getD 0 0)).2 z hz
      have h4 : z - minL l < 9223372036854775808 := by
        unfold nearL at hnear
        rw [List.take_of_length_le (Nat.le_refl _)] at hnear
        have := List.all_eq_true.1 hnear z hz
        simpa using this
      unfold minL at h4 ⊢
      omega) X (by omega) K gg (upL l).length (Nat.le_refl _) (by rw [upL_len]; exact hPK)
    rw [mixL_full, upL_len] at hpb
    unfold prL at *
    rw [hpb]
    obtain ⟨ha, hb⟩ := upL_back l hu s hs hnear
    unfold takeP4
    simp only []
    rw [ha, if_pos rfl, hb]
end Go.Proofs.YtmejoococajikaaGreat

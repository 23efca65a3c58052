/- Joined texts: PlainU, RefU, PAdd. Each has its own head line. No condition beyond those that its theorems state. -/
import Derived.Deep.RegionWith
import Derived.Test.YtmejoococajikaaGreatJ05
import Derived.Test.YtmejoococajikaaGreatJ06
import Derived.Test.YtmejoococajikaaGreatJ07
set_option linter.unusedVariables false

/- Plain laws: bits of a number. -/
namespace Go.Proofs.YtmejoococajikaaGreat

theorem snoc_ind {p : List Int → Prop} (h0 : p []) (h1 : ∀ l y, p l → p (l ++ [y])) (l : List Int) : p l := by
  have : ∀ k : List Int, p k.reverse := by
    intro k
    induction k with
    | nil => exact h0
    | cons y k ih => rw [List.reverse_cons]; exact h1 _ _ ih
  rw [← List.reverse_reverse l]; exact this _
/-- k bits of a number of T bits, from place a. -/
def bitsV (F T a k : Nat) : Nat := F / 2 ^ (T - (a + k)) % 2 ^ k
theorem bitsV_lt (F T a k : Nat) : bitsV F T a k < 2 ^ k := Nat.mod_lt _ (Nat.two_pow_pos _)
theorem bitsV_add (F T a k m : Nat) (h : a + k + m ≤ T) : bitsV F T a (k + m) = bitsV F T a k * 2 ^ m + bitsV F T (a + k) m := by
  unfold bitsV
  have e : T - (a + k) = T - (a + k + m) + m := by omega
  rw [e, ← Nat.add_assoc, Nat.pow_add 2 (T - (a + k + m)) m, ← Nat.div_div_eq_div_mul]
  generalize F / 2 ^ (T - (a + k + m)) = q
  rw [Nat.pow_add, Nat.mul_comm (2 ^ k), Nat.mod_mul, Nat.add_comm, Nat.mul_comm (2 ^ m)]
/-- What is taken of a byte. -/
theorem bits_byte (F N a m : Nat) (h : a + m ≤ 8 * N) (hm0 : 1 ≤ m) (hm : m ≤ 8 - a % 8) :
    byteAt F N (a / 8) * 2 ^ (a % 8) % 256 / 2 ^ (8 - m) = bitsV F (8 * N) a m := by
  unfold byteAt bitsV
  have e0 : (256 : Nat) = 2 ^ (8 - a % 8) * 2 ^ (a % 8) := by rw [← Nat.pow_add, show 8 - a % 8 + a % 8 = 8 from by omega]
  have e1 : 256 ^ (N - 1 - a / 8) = 2 ^ (8 * (N - 1 - a / 8)) := pow8 _
  rw [e1]
  have e2 : 8 * N - (a + m) = 8 * (N - 1 - a / 8) + (8 - a % 8 - m) := by omega
  rw [e2, Nat.pow_add, ← Nat.div_div_eq_div_mul]
  generalize F / 2 ^ (8 * (N - 1 - a / 8)) = q
  have e3 : q % 256 * 2 ^ (a % 8) % 256 = q % 2 ^ (8 - a % 8) * 2 ^ (a % 8) := by
    rw [Nat.mod_mul_mod]
    conv => lhs; rw [e0]
    exact Nat.mul_mod_mul_right _ _ _
  rw [e3]
  have e4 : 2 ^ (8 - m) = 2 ^ (a % 8) * 2 ^ (8 - a % 8 - m) := by rw [← Nat.pow_add]; congr 1; omega
  rw [e4, ← Nat.div_div_eq_div_mul, Nat.mul_div_cancel _ (Nat.two_pow_pos _)]
  have e5 : 2 ^ (8 - a % 8) = 2 ^ (8 - a % 8 - m) * 2 ^ m := by rw [← Nat.pow_add]; congr 1; omega
  rw [e5, Nat.mod_mul_right_div_self]
theorem bit_byte (F N a : Nat) (h : a < 8 * N) :
    byteAt F N (a / 8) / 2 ^ (7 - a % 8) % 2 = bitsV F (8 * N) a 1 := by
  unfold byteAt bitsV
  have e1 : 256 ^ (N - 1 - a / 8) = 2 ^ (8 * (N - 1 - a / 8)) := pow8 _
  rw [e1]
  have e2 : 8 * N - (a + 1) = 8 * (N - 1 - a / 8) + (7 - a % 8) := by omega
  rw [e2, Nat.pow_add, ← Nat.div_div_eq_div_mul]
  generalize F / 2 ^ (8 * (N - 1 - a / 8)) = q
  have e0 : (256 : Nat) = 2 ^ (7 - a % 8) * 2 ^ (1 + a % 8) := by rw [← Nat.pow_add, show 7 - a % 8 + (1 + a % 8) = 8 from by omega]
  rw [e0, Nat.mod_mul_right_div_self, Nat.pow_add, Nat.pow_one, Nat.mod_mul_right_mod]
theorem packV_lt (l : List Int) (x : Nat) (h : ∀ y ∈ l, y.toNat < 2 ^ x) : packV l x < 2 ^ (l.length * x) := by
  induction l using snoc_ind with
  | h0 => simp [packV]
  | h1 l y ih =>
    have h1 := ih fun z hz => h z (by simp [hz])
    have h2 := h y (by simp)
    rw [packV_snoc, List.length_append, List.length_singleton, Nat.add_mul, Nat.one_mul, Nat.pow_add]
    have h3 : packV l x * 2 ^ x + 2 ^ x ≤ 2 ^ (l.length * x) * 2 ^ x := by
      rw [← Nat.succ_mul]; exact Nat.mul_le_mul_right _ h1
    omega
/-- A number in the row of packed ones. -/
theorem packV_get (l : List Int) (x : Nat) (h : ∀ y ∈ l, y.toNat < 2 ^ x) (i : Nat) (hi : i < l.length) :
    packV l x / 2 ^ ((l.length - 1 - i) * x) % 2 ^ x = (l.getD i 0).toNat := by
  induction l using snoc_ind with
  | h0 => simp at hi
  | h1 l y ih =>
    have h2 := h y (by simp)
    rw [packV_snoc]
    simp only [List.length_append, List.length_singleton] at hi ⊢
    rcases Nat.lt_or_ge i l.length with hlt | hge
    · have e : l.length + 1 - 1 - i = (l.length - 1 - i) + 1 := by omega
      rw [e, Nat.add_mul, Nat.one_mul, Nat.add_comm _ y.toNat, Nat.add_comm _ x, Nat.pow_add, ← Nat.div_div_eq_div_mul, Nat.add_mul_div_right _ _ (Nat.two_pow_pos _), Nat.div_eq_of_lt h2, Nat.zero_add, ih (fun z hz => h z (by simp [hz])) hlt]
      simp [List.getD, List.getElem?_append_left hlt]
    · obtain rfl : i = l.length := by omega
      rw [show l.length + 1 - 1 - l.length = 0 from by omega, Nat.zero_mul, Nat.pow_zero, Nat.div_one, Nat.add_comm, Nat.add_mul_mod_self_right, Nat.mod_eq_of_lt h2]
      simp [List.getD]
theorem bytesOf_inj (X Y N : Nat) (hX : X < 256 ^ N) (hY : Y < 256 ^ N) (h : bytesOf X N = bytesOf Y N) : X = Y := by
  induction N generalizing X Y with
  | zero => simp at hX hY; omega
  | succ N ih =>
    have hj : ∀ j, j < N + 1 → byteAt X (N + 1) j = byteAt Y (N + 1) j := by
      intro j hj
      have := congrArg (fun l => l[j]?) h
      simp only [bytesOf_get _ _ _ hj, Option.some.injEq] at this
      omega
    have e1 : X % 256 = Y % 256 := by have := hj N (by omega); simpa [byteAt] using this
    have e2 : X / 256 = Y / 256 := by
      apply ih
      · rw [Nat.div_lt_iff_lt_mul (by omega)]; rwa [Nat.pow_succ] at hX
      · rw [Nat.div_lt_iff_lt_mul (by omega)]; rwa [Nat.pow_succ] at hY
      · apply List.ext_getElem?
        intro j
        rcases Nat.lt_or_ge j N with hlt | hge
        · rw [bytesOf_get _ _ _ hlt, bytesOf_get _ _ _ hlt]
          have := hj j (by omega)
          unfold byteAt at this ⊢
          rw [show N + 1 - 1 - j = 1 + (N - 1 - j) from by omega, p256, Nat.pow_one, ← Nat.div_div_eq_div_mul, ← Nat.div_div_eq_div_mul] at this
          rw [this]
        · rw [List.getElem?_eq_none (by rw [bytesOf_len]; exact hge), List.getElem?_eq_none (by rw [bytesOf_len]; exact hge)]
    omega
/-- A row of bytes is the bytes of its number. -/
theorem bytesOf_packV (l : List Int) (h : U8 l) : bytesOf (packV l 8) l.length = l := by
  apply List.ext_getElem?
  intro j
  rcases Nat.lt_or_ge j l.length with hlt | hge
  · rw [bytesOf_get _ _ _ hlt]
    have e := packV_get l 8 (fun y hy => by have := h y hy; omega) j hlt
    unfold byteAt
    rw [pow8, Nat.mul_comm 8]
    rw [show (256 : Nat) = 2 ^ 8 from rfl, e]
    have h2 := h _ (getD_mem l j hlt)
    rw [List.getElem?_eq_getElem hlt]
    rw [show l.getD j 0 = l[j] from by simp [List.getD, hlt]] at h2 ⊢
    congr 1; omega
  · rw [List.getElem?_eq_none (by rw [bytesOf_len]; exact hge), List.getElem?_eq_none hge]
/-- The numbers of which a number is made. -/
def bitsL (F T x m : Nat) : List Int := (List.range m).map fun i => (bitsV F T (i * x) x : Int)
theorem bitsL_len (F T x m : Nat) : (bitsL F T x m).length = m := by simp [bitsL]
theorem bitsL_snoc (F T x m : Nat) : bitsL F T x (m + 1) = bitsL F T x m ++ [(bitsV F T (m * x) x : Int)] := by simp [bitsL, List.range_succ]
theorem packV_bitsL (F T x m : Nat) (hF : F < 2 ^ T) (h : m * x ≤ T) : packV (bitsL F T x m) x = F / 2 ^ (T - m * x) := by
  induction m with
  | zero => simp [bitsL, packV, Nat.div_eq_of_lt hF]
  | succ m ih =>
    rw [Nat.add_mul, Nat.one_mul] at h
    rw [bitsL_snoc, packV_snoc, ih (by omega), Int.toNat_natCast]
    unfold bitsV
    rw [Nat.add_mul, Nat.one_mul, show T - m * x = T - (m * x + x) + x from by omega, Nat.pow_add, ← Nat.div_div_eq_div_mul]
    generalize F / 2 ^ (T - (m * x + x)) = q
    rw [Nat.mul_comm]
    exact Nat.div_add_mod _ _
/-- What Unpack answers. -/
def unpackR (l : List Int) (m x : Int) : List Int × List Int × Int :=
  if fitsB m x = false then ([], [], 1)
  else if l.length < (sizeN m x).toNat then ([], [], 2)
  else
    let n := (sizeN m x).toNat
    let F := packV (l.take n) 8
    if F % 2 ^ (8 * n - m.toNat * x.toNat) = 0 then (bitsL F (8 * n) x.toNat m.toNat, l.drop n, 0) else ([], [], 2)
end Go.Proofs.YtmejoococajikaaGreat

/- The reference of bits.Unpack. -/
namespace Go.Proofs.YtmejoococajikaaGreat
open Go.RowKit

/-- Two rows are handed back: numbers, bytes, and the error. -/
def UnpackOut (w : World) (l1 l2 : List Int) (er : Int) (e : Ending) (w' : World) : Prop :=
  ∃ G n c G2 n2 c2, e = .returned (.tuple #[.slice G n c, .slice G2 n2 c2, .int .i64 er]) ∧ Sl w' .u64 G n c l1 ∧ Sl w' .u8 G2 n2 c2 l2 ∧ Below w.heap.size w w'
theorem UnpackOut.nil {w w' : World} {er : Int} (h : Below w.heap.size w w') : UnpackOut w [] [] er (.returned (.tuple #[.slice none 0 0, .slice none 0 0, .int .i64 er])) w' :=
  ⟨none, 0, 0, none, 0, 0, rfl, Sl.nil _ _, Sl.nil _ _, h⟩
theorem bits_room (F T x m : Nat) (_hx : x ≤ 64) : (bitsL F T x m).all (roomB x) = true := by
  rw [List.all_eq_true]
  intro y hy
  obtain ⟨i, _, rfl⟩ := List.mem_map.1 hy
  refine decide_eq_true (.inr ?_)
  rw [Int.toNat_natCast]; exact bitsV_lt _ _ _ _
theorem bits_u64 (F T x m : Nat) (hx : x ≤ 64) : U64 (bitsL F T x m) := by
  intro y hy
  obtain ⟨i, _, rfl⟩ := List.mem_map.1 hy
  have h1 := bitsV_lt F T (i * x) x
  have h2 : 2 ^ x ≤ 2 ^ 64 := Nat.pow_le_pow_right (by omega) hx
  omega
/-- Packed anew. -/
theorem pack_again (F N x m : Nat) (hx : x ≤ 64) (hm : m ≤ 4096) (hN : N = (m * x + 7) / 8) (hF : F < 256 ^ N) :
    packR (bitsL F (8 * N) x m) x = (bytesOf (F / 2 ^ (8 * N - m * x) * 2 ^ (8 * N - m * x)) N, 0) := by
  unfold packR
  rw [if_neg (by omega), bitsL_len, if_neg (by omega), Int.toNat_natCast, if_pos (bits_room _ _ _ _ hx), packV_bitsL _ _ _ _ (by rwa [← pow8]) (by omega), ← hN]
theorem again_same (F N k : Nat) (hF : F < 256 ^ N) : bytesOf (F / 2 ^ k * 2 ^ k) N = bytesOf F N ↔ F % 2 ^ k = 0 := by
  constructor
  · intro h
    have hle : F / 2 ^ k * 2 ^ k ≤ F := Nat.div_mul_le_self _ _
    have e := bytesOf_inj _ _ N (by omega) hF h
    rw [← e]; exact Nat.mul_mod_left _ _
  · intro h
    rw [Nat.div_mul_cancel (Nat.dvd_of_mod_eq_zero h)]
/-- One bit more. -/
theorem bit_step (F N a t : Nat) (y : Nat) (h : a + t < 8 * N) (hy : y = byteAt F N ((a + t) / 8)) (ht : t < 64) :
    ∃ d : Nat, bits BinOp.and IntKind.u8 ((y : Int) / 2 ^ (7 - (a + t) % 8)) 1 = (d : Int) ∧ d < 2 ∧ bitsV F (8 * N) a t < 9223372036854775808 ∧ 2 * (bitsV F (8 * N) a t : Int) + (d : Int) = (bitsV F (8 * N) a (t + 1) : Int) := by
  refine ⟨byteAt F N ((a + t) / 8) / 2 ^ (7 - (a + t) % 8) % 2, ?_, Nat.mod_lt _ (by omega), ?_, ?_⟩
  · subst hy
    rw [cast_shr]
    have h1 : byteAt F N ((a + t) / 8) / 2 ^ (7 - (a + t) % 8) < 256 := Nat.lt_of_le_of_lt (Nat.div_le_self _ _) (byteAt_lt _ _ _)
    have := u8_and_nat (byteAt F N ((a + t) / 8) / 2 ^ (7 - (a + t) % 8)) 1 h1 (by omega)
    rw [Nat.and_one_is_mod] at this
    exact this
  · have h1 := bitsV_lt F (8 * N) a t
    have h2 : 2 ^ t ≤ 2 ^ 63 := Nat.pow_le_pow_right (by omega) (by omega)
    omega
  · rw [bit_byte _ _ _ h, bitsV_add _ _ _ _ _ (by omega), Nat.pow_one]
    omega

set_option maxRecDepth 100000 in
set_option maxHeartbeats 2000000 in
theorem refUnpack_any (w : World) (A : Option Addr) (n cap : Nat) (l : List Int) (m x : Int) (hr : Ri w .u8 A n l) (hu : U8 l) (hc : n ≤ cap) (hn : n ≤ 1000000) (r1 r2 : List Int) (er : Int) (hp : unpackR l m x = (r1, r2, er)) :
    Calls Tryz.prog 111 #[.slice A n cap, .int .i64 m, .int .i64 x] w (UnpackOut w r1 r2 er) := by
  have HL := Lib.hid hr.len
  have HR := Lib.hid hr; clear hr
  have HU := Lib.hid hu; clear hu
  rcases (show m < 0 ∨ (0 ≤ m ∧ 4096 < m) ∨ (0 ≤ m ∧ m ≤ 4096 ∧ x < 0) ∨ (0 ≤ m ∧ m ≤ 4096 ∧ 0 ≤ x ∧ 64 < x) ∨ (0 ≤ m ∧ m ≤ 4096 ∧ 0 ≤ x ∧ x ≤ 64) by omega) with h | ⟨h1, h2⟩ | ⟨h1, h2, h3⟩ | ⟨h1, h2, h3, h4⟩ | ⟨h1, h2, h3, h4⟩
  case inr.inr.inr.inr =>
    have hf : fitsB m x = true := decide_eq_true (by omega)
    obtain ⟨k, rfl⟩ := Int.eq_ofNat_of_zero_le h3
    obtain ⟨M, rfl⟩ := Int.eq_ofNat_of_zero_le h1
    have hk : k ≤ 64 := by omega
    have hM : M ≤ 4096 := by omega
    clear h1 h2 h3 h4
    obtain ⟨N, hN⟩ : ∃ N, N = (M * k + 7) / 8 := ⟨_, rfl⟩
    have hMk : M * k ≤ 4096 * 64 := Nat.mul_le_mul (by omega) hk
    have hNle : N ≤ 32768 := by omega
    have hsz : Hid (sizeN M k = (N : Int)) := by
      show sizeN M k = _
      unfold sizeN
      rw [hf, if_pos rfl, hN]
      rw [← Int.natCast_mul]; omega
    unfold unpackR at hp
    rw [if_neg (by rw [hf]; simp), hsz.out, Int.toNat_natCast, HL.out, Int.toNat_natCast, Int.toNat_natCast] at hp
    have HN := Lib.hid hN; clear hN hf hMk
    by_cases hshort : n < N
    · rw [if_pos hshort] at hp
      injection hp with e1 e2; injection e2 with e2 e3
      subst e1 e2 e3
      go_enter Tryz.func111, Tryz.ntmps111
      go_wp2_with fail
      refine (refSize_any _ _ _).mono ?_; rintro e w' ⟨rfl, rfl⟩
      rw [hsz.out]
      go_wp2_with fail
      refine bodyPost_ret (results_tmp3 rfl _ _ _) rfl ?_
      exact UnpackOut.nil (Below.refl _ _)
    · rw [if_neg hshort] at hp
      simp only at hp
      obtain ⟨F, hF⟩ : ∃ F, F = packV (l.take N) 8 := ⟨_, rfl⟩
      have htl : (l.take N).length = N := by rw [List.length_take, HL.out]; omega
      have hFl : Hid (bytesOf F N = l.take N ∧ F < 256 ^ N) := by
        show _ ∧ _
        refine ⟨?_, ?_⟩
        · have h := bytesOf_packV (l.take N) (HU.out.take _)
          rw [← hF, htl] at h; exact h
        · have h := packV_lt (l.take N) 8 (fun y hy => by have := HU.out.take N y hy; omega)
          rw [← hF, htl] at h
          rwa [pow8, Nat.mul_comm 8]
      rw [← hF] at hp
      have HP := Lib.hid hp
      clear hp hF htl
      go_enter Tryz.func111, Tryz.ntmps111
      go_wp2_with fail
      refine (refSize_any _ _ _).mono ?_; rintro e w' ⟨rfl, rfl⟩
      rw [hsz.out]
      go_wp2_with fail
      go_loopw [10, 11, 12] (fun v a i wr => ∃ j p : Nat, j ≤ M ∧ i = .int .i64 j ∧ a = .int .i64 p ∧ Hid (p = j * k) ∧ Hid (wr.ownsRow w.heap.size 109 1 v j ((bitsL F (8 * N) k j).map (Value.int .u64))) ∧ Below w.heap.size w wr) (fun _ _ i _ => M - (intOf i).toNat)
      case atStart =>
        exact ⟨0, 0, by omega, rfl, rfl, by show 0 = 0 * k; omega, own_empty w _ 1, (Below.refl _ _).alloc (Nat.le_refl _) _⟩
      case round =>
        obtain ⟨j, p, hj, rfl, rfl, hpj, ho, hbw⟩ := hrel
        by_cases hlt : j < M
        · have hpk : p + k ≤ 8 * N := by
            have h1 : (j + 1) * k ≤ M * k := Nat.mul_le_mul_right _ hlt
            rw [Nat.add_mul, Nat.one_mul, ← hpj.out] at h1
            have := HN.out
            omega
          go_wp2_with fail
          go_loopw [11, 13, 14] (fun a v q wi => ∃ t : Nat, t ≤ k ∧ a = .int .i64 ((p + t : Nat) : Int) ∧ v = .int .u64 (bitsV F (8 * N) p t) ∧ q = .int .i64 t ∧ wi = wr) (fun _ _ q _ => k - (intOf q).toNat)
          case atStart => exact ⟨0, by omega, rfl, by unfold bitsV; rw [Nat.pow_zero, Nat.mod_one]; rfl, rfl, rfl⟩
          case round =>
            obtain ⟨t, ht, rfl, rfl, rfl, rfl⟩ := hrel
            by_cases hlt2 : t < k
            · obtain ⟨b, o, hA, hbl, hcell⟩ := HR.out.at_ (j := (p + t) / 8) (by omega)
              subst hA
              obtain ⟨y, hy, hyF⟩ : ∃ y : Nat, (y : Int) = l.getD ((p + t) / 8) 0 ∧ y = byteAt F N ((p + t) / 8) := by
                refine ⟨_, ?_, rfl⟩
                have h1 := congrArg (fun q => q[(p + t) / 8]?) hFl.out.1
                rw [bytesOf_get _ _ _ (by omega), List.getElem?_take_of_lt (by omega)] at h1
                simp only [List.getD]
                rw [← h1]; rfl
              obtain ⟨d, hd1, hd2, hd3, hd4⟩ := bit_step F N p t y (by omega) hyF (by omega)
              rw [← hy] at hcell
              have hc2 := (hbw.cell (p := ⟨b, o + (p + t) / 8, none⟩) hbl).trans hcell
              have hy8 : y < 256 := by rw [hyF]; exact byteAt_lt _ _ _
              have HD4 := Lib.hid hd4
              have hd0 : 0 ≤ bits BinOp.and IntKind.u8 ((y : Int) / 2 ^ (7 - (p + t) % 8)) 1 ∧ bits BinOp.and IntKind.u8 ((y : Int) / 2 ^ (7 - (p + t) % 8)) 1 < 2 := by rw [hd1]; omega
              have HD1 := Lib.hid hd1
              clear hcell hyF hd4 hy hd1
              generalize hvv : bitsV F (8 * N) p t = v at *
              clear hvv
              go_wp2_with fail
              go_roundw
              case rel =>
                refine ⟨t + 1, by omega, by go_num, ?_, by go_num, by trivial⟩
                rw [HD1.out, HD4.out]
              case measure => simp [intOf] <;> omega
            · obtain rfl : t = k := by omega
              obtain ⟨v, hv⟩ : ∃ v, v = bitsV F (8 * N) p t := ⟨_, rfl⟩
              rw [← hv]
              have hvl : v < 18446744073709551616 := by
                rw [hv]
                have h1 := bitsV_lt F (8 * N) p t
                have h2 : 2 ^ t ≤ 2 ^ 64 := Nat.pow_le_pow_right (by omega) hk
                omega
              have HV := Lib.hid hv; clear hv
              have hsz := hbw.size
              go_wp2_with (at_builtin; refine wpList_u64 _ rfl _ _ rfl w.heap.size _ j _ rfl (own_below ho.out ((Below.refl _ _).alloc (Nat.le_refl _) _)) _ 1 1 [(v : Int)] rfl (Rd.one _ _ _) (by omega) (by simp; omega) ?_; intro G c w1 hown hgr _)
              have HOWN := Lib.hid hown; clear hown
              go_wp2_with fail
              go_roundw
              case rel =>
                refine ⟨j + 1, p + t, by omega, by go_num, by go_num, Lib.hid ?_, Lib.hid ?_, push_ hbw (Nat.le_refl _) ho.out hgr⟩
                · rw [Nat.add_mul, Nat.one_mul, ← hpj.out]
                · rw [bitsL_snoc, ← hpj.out, ← HV.out]
                  exact HOWN.out
              case measure => simp [intOf] <;> omega
        · obtain rfl : j = M := by omega
          obtain ⟨G, c, rfl⟩ := own_form ho.out
          have hsl := Sl.of_own ho.out
          have HSL := Lib.hid hsl; clear hsl ho
          have HRL := Lib.hid (HR.out.below hbw)
          go_wp2_with fail
          refine (refPack_any _ _ _ _ _ _ HSL.out.1 (bits_u64 _ _ _ _ hk) (by omega) _ _ (pack_again F N k j hk hM HN.out hFl.out.2)).mono ?_; rintro e w1 ⟨G1, n1, c1, rfl, hr1, hb1⟩
          have hr2 := (HRL.out.below hb1).first (m := N) (by omega)
          rw [← hFl.out.1] at hr2
          have cv1 := fun nq => conv_any (w := w1.drewN nq) (c := c1) (hr1.1.drewN nq)
          have cv2 := fun nq => conv_any (w := w1.drewN nq) (c := cap) (hr2.drewN nq)
          have st := strOf_beq _ _ (bytesOf_u8 (F / 2 ^ (8 * N - j * k) * 2 ^ (8 * N - j * k)) N) (bytesOf_u8 F N)
          have hp := HP.out
          have hag := again_same F N (8 * N - j * k) hFl.out.2
          by_cases hz : F % 2 ^ (8 * N - j * k) = 0
          · rw [if_pos hz] at hp
            rw [decide_eq_true (hag.2 hz)] at st
            injection hp with e1 e2; injection e2 with e2 e3
            subst e1 e2 e3
            generalize strOf (bytesOf F N) = S1 at *
            generalize strOf (bytesOf (F / 2 ^ (8 * N - j * k) * 2 ^ (8 * N - j * k)) N) = S2 at *
            have HB1 := Lib.hid hb1
            clear hz hag hr1 hr2 hb1
            rcases Nat.eq_zero_or_pos n with hn0 | hn0
            · subst hn0
              obtain rfl : N = 0 := by omega
              obtain rfl : l = [] := List.eq_nil_of_length_eq_zero HL.out
              go_wp2_with fail
              go_quiet (fail)
              go_wp2_with (at_builtin; refine wpList_u8 _ rfl _ _ rfl w1.heap.size _ 0 [] rfl (own_empty (w1.drewN nq) _ 1) _ 0 _ [] rfl (Ri.nil _ _ _) (by omega) (by simp) ?_; intro G2 c2 w2 hown hgr _)
              all_goals
                have HOWN := Lib.hid hown; clear hown
                have hbf := push0 ((Below.refl (w1.drewN nq).heap.size (w1.drewN nq)).alloc (Nat.le_refl _) _) (Nat.le_refl _) (own_empty (w1.drewN nq) _ 1) hgr
                go_wp2_with fail
                refine bodyPost_ret (results_tmp3 rfl _ _ _) rfl ?_
                refine ⟨_, _, _, G2, _, c2, rfl, (((HSL.out.below HB1.out).drewN nq).below hbf), ?_, on (below_drewN (on hbw HB1.out) nq) hbf⟩
                have h := Sl.of_own HOWN.out
                exact h
            · obtain ⟨b, o, hA, _⟩ := HR.out.all hn0
              subst hA
              have HQ := Lib.hid ((HRL.out.below HB1.out).restIf (i := N) (by omega) (cap := cap) hc)
              go_wp2_with fail
              go_quiet (fail)
              go_wp2_with (at_builtin; refine wpList_u8 _ rfl _ _ rfl w1.heap.size _ 0 [] rfl (own_empty (w1.drewN nq) _ 1) _ (n - N) _ (l.drop N) rfl ((HQ.out.drewN nq).alloc _) (by omega) (by simp) ?_; intro G2 c2 w2 hown hgr _)
              all_goals
                rw [Nat.zero_add, List.nil_append] at hown
                have HOWN := Lib.hid hown; clear hown
                have hbf := push0 ((Below.refl (w1.drewN nq).heap.size (w1.drewN nq)).alloc (Nat.le_refl _) _) (Nat.le_refl _) (own_empty (w1.drewN nq) _ 1) hgr
                go_wp2_with fail
                refine bodyPost_ret (results_tmp3 rfl _ _ _) rfl ?_
                exact ⟨_, _, _, G2, (n - N), c2, by first | rfl | (rw [Nat.zero_add]; rfl), (((HSL.out.below HB1.out).drewN nq).below hbf), Sl.of_own HOWN.out, on (below_drewN (on hbw HB1.out) nq) hbf⟩
          · rw [if_neg hz] at hp
            rw [decide_eq_false (fun h => hz (hag.1 h))] at st
            injection hp with e1 e2; injection e2 with e2 e3
            subst e1 e2 e3
            generalize strOf (bytesOf F N) = S1 at *
            generalize strOf (bytesOf (F / 2 ^ (8 * N - j * k) * 2 ^ (8 * N - j * k)) N) = S2 at *
            clear hz hag hr1 hr2
            go_wp2_with fail
            go_quiet (fail)
            go_wp2_with fail
            refine bodyPost_ret (results_tmp3 rfl _ _ _) rfl ?_
            exact UnpackOut.nil (below_drewN (on hbw hb1) _)
  all_goals
    have HS : Hid (unpackR l m x = ([], [], 1)) := by
      show unpackR l m x = _
      unfold unpackR
      rw [show fitsB m x = false from decide_eq_false (by omega)]; rfl
    have hp := hp.symm.trans HS.out
    injection hp with e1 e2; injection e2 with e2 e3
    subst e1 e2 e3
    go_enter Tryz.func111, Tryz.ntmps111
    go_wp2_with fail
    refine bodyPost_ret (results_tmp3 rfl _ _ _) rfl ?_
    exact UnpackOut.nil (Below.refl _ _)
end Go.Proofs.YtmejoococajikaaGreat

/- The closure of patched.cut that adds a pair. -/
namespace Go.Proofs.YtmejoococajikaaGreat
open Go.RowKit

/-- The world while numbers are cut: the run, the last place, the two rows. -/
def CutW (S : Nat) (w0 w : World) (base : Int) (lo : List Int) (P : List (Int × Int)) (g p last : Int) : Prop :=
  ∃ lv pv, Blk w S 151 #[.int .i64 base, lv, pv, .int .i64 g, .int .i64 p] ∧ Blk w (S + 1) 3 #[.int .i64 last] ∧
    w.ownsRow (S + 2) 109 1 lv lo.length (lo.map (Value.int .u64)) ∧ w.ownsRow (S + 2) 155 2 pv P.length (cellsP P) ∧ Apart pv lv ∧ Below S w0 w
def bigger (a : Int) (b : Nat) : Int := if a < (b : Int) then (b : Int) else a

theorem cut_push {S : Nat} {w0 w w1 : World} {base g p last : Int} {lo : List Int} {P P2 : List (Int × Int)} {lv pv v : Value} {o : Obj} (_hS : w0.heap.size = S)
    (hr : Blk w S 151 #[.int .i64 base, lv, pv, .int .i64 g, .int .i64 p]) (hla : Blk w (S + 1) 3 #[.int .i64 last])
    (hlo : w.ownsRow (S + 2) 109 1 lv lo.length (lo.map (Value.int .u64))) (hpo : w.ownsRow (S + 2) 155 2 pv P.length (cellsP P)) (hap : Apart pv lv) (hb : Below S w0 w)
    (hown : w1.ownsRow (S + 2) 155 2 v P2.length (cellsP P2)) (hg : (w.alloc o).grownBy w1 pv.ownBlock) (hat : v.ownBlock = pv.ownBlock ∨ v.ownBlock = some (w.alloc o).heap.size) :
    Blk w1 S 151 #[.int .i64 base, lv, pv, .int .i64 g, .int .i64 p] ∧ CutW S w0 (w1.setCell ⟨S, 2, none⟩ v) base lo P2 g p last := by
  have hn : ∀ k, k < S + 2 → some k ≠ pv.ownBlock := fun k hk e => by have := (hpo.lt k e.symm).1; omega
  have h1 := (hr.alloc o).grown hg (hn S (by omega))
  have h2 := (hla.alloc o).grown hg (hn (S + 1) (by omega))
  have hlo1 := hap.kept (own_below hlo ((Below.refl _ _).alloc (Nat.le_refl _) o)) hg
  have hz := hla.lt
  refine ⟨h1, lv, v, h1.set_ 2 v, h2.far (by simp) _, ownsRow_setCell_below hlo1 (by simp) _, ownsRow_setCell_below hown (by simp) _, ?_, ?_⟩
  · exact hap.grown (own_below hlo ((Below.refl _ _).alloc (Nat.le_refl _) o)) (Nat.le_refl _) hat
  · refine Below.setCell ?_ (by simp) _
    exact below_of_grown (hb.alloc (by have := hb.size; omega) o) hg (by simp; omega) (fun k e => by have := (hpo.lt k e).1; omega)

theorem CutW.set_g {S : Nat} {w0 W : World} {base g p last : Int} {lo : List Int} {P : List (Int × Int)} (h : CutW S w0 W base lo P g p last) (x : Int) : CutW S w0 (W.setCell ⟨S, 3, none⟩ (.int .i64 x)).drew base lo P x p last := by
  obtain ⟨lv, pv, hr, hla, hlo, hpo, hap, hb⟩ := h
  exact ⟨lv, pv, (hr.set_ 3 (.int .i64 x)).drew, (hla.far (p := ⟨S, 3, none⟩) (by simp) _).drew, (ownsRow_setCell_below hlo (by simp) _).drew, (ownsRow_setCell_below hpo (by simp) _).drew, hap, (hb.setCell (p := ⟨S, 3, none⟩) (Nat.le_refl _) _).drew⟩
theorem CutW.set_p {S : Nat} {w0 W : World} {base g p last : Int} {lo : List Int} {P : List (Int × Int)} (h : CutW S w0 W base lo P g p last) (x : Int) : CutW S w0 (W.setCell ⟨S, 4, none⟩ (.int .i64 x)).drew base lo P g x last := by
  obtain ⟨lv, pv, hr, hla, hlo, hpo, hap, hb⟩ := h
  exact ⟨lv, pv, (hr.set_ 4 (.int .i64 x)).drew, (hla.far (p := ⟨S, 4, none⟩) (by simp) _).drew, (ownsRow_setCell_below hlo (by simp) _).drew, (ownsRow_setCell_below hpo (by simp) _).drew, hap, (hb.setCell (p := ⟨S, 4, none⟩) (Nat.le_refl _) _).drew⟩
theorem CutW.set_l {S : Nat} {w0 W : World} {base g p last : Int} {lo : List Int} {P : List (Int × Int)} (h : CutW S w0 W base lo P g p last) (x : Int) : CutW S w0 (W.setCell ⟨S + 1, 0, none⟩ (.int .i64 x)) base lo P g p x := by
  obtain ⟨lv, pv, hr, hla, hlo, hpo, hap, hb⟩ := h
  exact ⟨lv, pv, hr.far (p := ⟨S + 1, 0, none⟩) (by simp) _, hla.set_ 0 (.int .i64 x), ownsRow_setCell_below hlo (by simp) _, ownsRow_setCell_below hpo (by simp) _, hap, hb.setCell (p := ⟨S + 1, 0, none⟩) (by simp) _⟩

set_option maxRecDepth 100000 in
set_option maxHeartbeats 2000000 in
theorem add_any (w0 w : World) (S : Nat) (hS : w0.heap.size = S) (base : Int) (lo : List Int) (P : List (Int × Int)) (g p last : Int) (h : CutW S w0 w base lo P g p last) (gap patch : Int)
    (hg : 0 ≤ gap ∧ gap ≤ 1000) (hp : 0 ≤ patch ∧ patch < 18446744073709551616) (hP : P.length ≤ 100000) (hl : 0 ≤ last ∧ last ≤ 1000000) :
    Calls Tryz.prog 157 #[.int .i64 gap, .int .u64 patch, .pointer (some ⟨S, 0, none⟩), .pointer (some ⟨S + 1, 0, none⟩)] w
      fun e w' => e = .returned (.tuple #[]) ∧ CutW S w0 w' base lo (P ++ [(gap, patch)]) (bigger g (blen gap.toNat)) (bigger p (blen patch.toNat)) (last + gap) := by
  obtain ⟨lv, pv, hr, hla, hlo, hpo, hap, hb⟩ := h
  have c2 : w.cell? ⟨S, 2, none⟩ = some pv := (hr.cell 2).trans rfl
  have HR := Lib.hid hr; have HLA := Lib.hid hla; have HLO := Lib.hid hlo; have HPO := Lib.hid hpo; have HAP := Lib.hid hap; have HB := Lib.hid hb
  have hlt := hr.lt; have hlt2 := hla.lt
  clear hr hla hlo hpo hap hb
  have hwr : IntKind.u64.wrap gap = gap := by rw [IntKind.wrap_u64]; omega
  obtain ⟨hg1, hg2⟩ := hg
  obtain ⟨hp1, hp2⟩ := hp
  go_enter Tryz.func157, Tryz.ntmps157
  go_wp2_with (at_builtin; refine wpList_pairx _ rfl _ _ rfl (S + 2) pv P.length P rfl (own_below HPO.out ((Below.refl _ _).alloc (Nat.le_refl _) _)) _ 1 1 [_] rfl (Rp.one_at rfl) (by omega) (by simp; omega) ?_; intro G c w1 hown hgrow hcap hat; have hm := cut_push hS HR.out HLA.out HLO.out HPO.out HAP.out HB.out (P2 := P ++ [(gap, patch)]) (by rw [List.length_append]; exact hown) hgrow hat; obtain ⟨hk1, hm⟩ := hm; have f2 := hk1.frozen 2; have d2 : w1.cell? ⟨S, 2, none⟩ = some pv := (hk1.cell 2).trans rfl; have HM := Lib.hid hm; clear hm hk1 hown hgrow hat)
  generalize w1.setCell ⟨S, 2, none⟩ (.slice G (P.length + 1) c) = W at *
  obtain ⟨lv, pv, hr, hla, hlo, hpo, hap, hb⟩ := HM.out
  have c3 : W.cell? ⟨S, 3, none⟩ = some (.int .i64 g) := (hr.cell 3).trans rfl
  have g3 := hr.frozen 3
  have HR := Lib.hid hr; have HLA := Lib.hid hla; have HLO := Lib.hid hlo; have HPO := Lib.hid hpo; have HAP := Lib.hid hap; have HB := Lib.hid hb
  clear hr hla hlo hpo hap hb HM f2 d2 c2
  have HM := Lib.hid (show CutW S w0 W base lo (P ++ [(gap, patch)]) g p last from ⟨lv, pv, HR.out, HLA.out, HLO.out, HPO.out, HAP.out, HB.out⟩)
  clear HR HLA HLO HPO HB HAP
  have hG1 : (if g < ↑(blen gap.toNat) then ↑(blen gap.toNat) else g) = bigger g (blen gap.toNat) := rfl
  have hG2 : (if p < ↑(blen patch.toNat) then ↑(blen patch.toNat) else p) = bigger p (blen patch.toNat) := rfl
  have HG1 := Lib.hid hG1; have HG2 := Lib.hid hG2; clear hG1 hG2
  go_region_with (go_at_call 149; refine (Bits_any _ _ (by omega) (by omega)).mono ?_; rintro e w' ⟨rfl, rfl⟩)
  all_goals
    rw [HG1.out]
    have hm := CutW.set_g HM.out (bigger g (blen gap.toNat))
    obtain ⟨gb, hgb⟩ : ∃ gb, bigger g (blen gap.toNat) = gb := ⟨_, rfl⟩
    rw [hgb] at hm ⊢
    have HGB := Lib.hid hgb; clear hgb
    have HM2 := Lib.hid hm
    generalize (W.setCell ⟨S, 3, none⟩ (.int .i64 gb)).drew = W2 at *
    clear HM hm c3 g3 HG1
    obtain ⟨lv2, pv2, hr, _, _, _, _, _⟩ := HM2.out
    have c4 : W2.cell? ⟨S, 4, none⟩ = some (.int .i64 p) := (hr.cell 4).trans rfl
    have g4 := hr.frozen 4
    clear hr
    go_wp2_with fail
    go_region_with (go_at_call 149; refine (Bits_any _ _ (by omega) (by omega)).mono ?_; rintro e w' ⟨rfl, rfl⟩)
    all_goals
      rw [HG2.out]
      have hm := CutW.set_p HM2.out (bigger p (blen patch.toNat))
      obtain ⟨pb, hpb⟩ : ∃ gb, bigger p (blen patch.toNat) = gb := ⟨_, rfl⟩
      rw [hpb] at hm ⊢
      have HPB := Lib.hid hpb; clear hpb
      have HM3 := Lib.hid hm
      generalize (W2.setCell ⟨S, 4, none⟩ (.int .i64 pb)).drew = W3 at *
      clear HM2 hm c4 g4 HG2
      obtain ⟨lv3, pv3, _, hla, _, _, _, _⟩ := HM3.out
      have c5 : W3.cell? ⟨S + 1, 0, none⟩ = some (.int .i64 last) := (hla.cell 0).trans rfl
      have g5 := hla.frozen 0
      clear hla
      go_wp2_with fail
      go_end0
      rw [HGB.out, HPB.out]
      exact ⟨rfl, CutW.set_l HM3.out _⟩
end Go.Proofs.YtmejoococajikaaGreat

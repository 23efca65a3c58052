/- Joined texts: PlainU, RefU, Take3, Unp. Each has its own head line. No condition beyond those that its theorems state. -/
import Derived.Test.YtmejoococajikaaJ16
import Derived.Test.YtmejoococajikaaJ17
set_option linter.unusedVariables false

/- Plain laws: bits of a number. -/
namespace Go.Proofs.Ytmejoococajikaa

theorem snoc_ind {p : List Int → Prop} (h0 : p []) (h1 : ∀ l y, p l → p (l ++ [y])) (l : List Int) : p l := by
  have : ∀ k : List Int, p k.reverse := by
    intro k
    induction k with
    | nil => exact h0
    | cons y k ih => rw [List.reverse_cons]; exact h1 _ _ ih
  rw [← List.reverse_reverse l]; exact this _
/-- k bits of a number of T bits, from place a. -/
def bitsV (F T a k : Nat) : Nat := F / 2 ^ (T - (a + k)) % 2 ^ k
theorem bitsV_lt (F T a k : Nat) : bitsV F T a k < 2 ^ k := Nat.mod_lt _ (Nat.two_pow_pos _)
theorem bitsV_add (F T a k m : Nat) (h : a + k + m ≤ T) : bitsV F T a (k + m) = bitsV F T a k * 2 ^ m + bitsV F T (a + k) m := by
  unfold bitsV
  have e : T - (a + k) = T - (a + k + m) + m := by omega
  rw [e, ← Nat.add_assoc, Nat.pow_add 2 (T - (a + k + m)) m, ← Nat.div_div_eq_div_mul]
  generalize F / 2 ^ (T - (a + k + m)) = q
  rw [Nat.pow_add, Nat.mul_comm (2 ^ k), Nat.mod_mul, Nat.add_comm, Nat.mul_comm (2 ^ m)]
/-- What is taken of a byte. -/
theorem bits_byte (F N a m : Nat) (h : a + m ≤ 8 * N) (hm0 : 1 ≤ m) (hm : m ≤ 8 - a % 8) :
    byteAt F N (a / 8) * 2 ^ (a % 8) % 256 / 2 ^ (8 - m) = bitsV F (8 * N) a m := by
  unfold byteAt bitsV
  have e0 : (256 : Nat) = 2 ^ (8 - a % 8) * 2 ^ (a % 8) := by rw [← Nat.pow_add, show 8 - a % 8 + a % 8 = 8 from by omega]
  have e1 : 256 ^ (N - 1 - a / 8) = 2 ^ (8 * (N - 1 - a / 8)) := pow8 _
  rw [e1]
  have e2 : 8 * N - (a + m) = 8 * (N - 1 - a / 8) + (8 - a % 8 - m) := by omega
  rw [e2, Nat.pow_add, ← Nat.div_div_eq_div_mul]
  generalize F / 2 ^ (8 * (N - 1 - a / 8)) = q
  have e3 : q % 256 * 2 ^ (a % 8) % 256 = q % 2 ^ (8 - a % 8) * 2 ^ (a % 8) := by
    rw [Nat.mod_mul_mod]
    conv => lhs; rw [e0]
    exact Nat.mul_mod_mul_right _ _ _
  rw [e3]
  have e4 : 2 ^ (8 - m) = 2 ^ (a % 8) * 2 ^ (8 - a % 8 - m) := by rw [← Nat.pow_add]; congr 1; omega
  rw [e4, ← Nat.div_div_eq_div_mul, Nat.mul_div_cancel _ (Nat.two_pow_pos _)]
  have e5 : 2 ^ (8 - a % 8) = 2 ^ (8 - a % 8 - m) * 2 ^ m := by rw [← Nat.pow_add]; congr 1; omega
  rw [e5, Nat.mod_mul_right_div_self]
theorem bit_byte (F N a : Nat) (h : a < 8 * N) :
    byteAt F N (a / 8) / 2 ^ (7 - a % 8) % 2 = bitsV F (8 * N) a 1 := by
  unfold byteAt bitsV
  have e1 : 256 ^ (N - 1 - a / 8) = 2 ^ (8 * (N - 1 - a / 8)) := pow8 _
  rw [e1]
  have e2 : 8 * N - (a + 1) = 8 * (N - 1 - a / 8) + (7 - a % 8) := by omega
  rw [e2, Nat.pow_add, ← Nat.div_div_eq_div_mul]
  generalize F / 2 ^ (8 * (N - 1 - a / 8)) = q
  have e0 : (256 : Nat) = 2 ^ (7 - a % 8) * 2 ^ (1 + a % 8) := by rw [← Nat.pow_add, show 7 - a % 8 + (1 + a % 8) = 8 from by omega]
  rw [e0, Nat.mod_mul_right_div_self, Nat.pow_add, Nat.pow_one, Nat.mod_mul_right_mod]
theorem packV_lt (l : List Int) (x : Nat) (h : ∀ y ∈ l, y.toNat < 2 ^ x) : packV l x < 2 ^ (l.length * x) := by
  induction l using snoc_ind with
  | h0 => simp [packV]
  | h1 l y ih =>
    have h1 := ih fun z hz => h z (by simp [hz])
    have h2 := h y (by simp)
    rw [packV_snoc, List.length_append, List.length_singleton, Nat.add_mul, Nat.one_mul, Nat.pow_add]
    have h3 : packV l x * 2 ^ x + 2 ^ x ≤ 2 ^ (l.length * x) * 2 ^ x := by
      rw [← Nat.succ_mul]; exact Nat.mul_le_mul_right _ h1
    omega
/-- A number in the row of packed ones. -/
theorem packV_get (l : List Int) (x : Nat) (h : ∀ y ∈ l, y.toNat < 2 ^ x) (i : Nat) (hi : i < l.length) :
    packV l x / 2 ^ ((l.length - 1 - i) * x) % 2 ^ x = (l.getD i 0).toNat := by
  induction l using snoc_ind with
  | h0 => simp at hi
  | h1 l y ih =>
    have h2 := h y (by simp)
    rw [packV_snoc]
    simp only [List.length_append, List.length_singleton] at hi ⊢
    rcases Nat.lt_or_ge i l.length with hlt | hge
    · have e : l.length + 1 - 1 - i = (l.length - 1 - i) + 1 := by omega
      rw [e, Nat.add_mul, Nat.one_mul, Nat.add_comm _ y.toNat, Nat.add_comm _ x, Nat.pow_add, ← Nat.div_div_eq_div_mul, Nat.add_mul_div_right _ _ (Nat.two_pow_pos _), Nat.div_eq_of_lt h2, Nat.zero_add, ih (fun z hz => h z (by simp [hz])) hlt]
      simp [List.getD, List.getElem?_append_left hlt]
    · obtain rfl : i = l.length := by omega
      rw [show l.length + 1 - 1 - l.length = 0 from by omega, Nat.zero_mul, Nat.pow_zero, Nat.div_one, Nat.add_comm, Nat.add_mul_mod_self_right, Nat.mod_eq_of_lt h2]
      simp [List.getD]
theorem bytesOf_inj (X Y N : Nat) (hX : X < 256 ^ N) (hY : Y < 256 ^ N) (h : bytesOf X N = bytesOf Y N) : X = Y := by
  induction N generalizing X Y with
  | zero => simp at hX hY; omega
  | succ N ih =>
    have hj : ∀ j, j < N + 1 → byteAt X (N + 1) j = byteAt Y (N + 1) j := by
      intro j hj
      have := congrArg (fun l => l[j]?) h
      simp only [bytesOf_get _ _ _ hj, Option.some.injEq] at this
      omega
    have e1 : X % 256 = Y % 256 := by have := hj N (by omega); simpa [byteAt] using this
    have e2 : X / 256 = Y / 256 := by
      apply ih
      · rw [Nat.div_lt_iff_lt_mul (by omega)]; rwa [Nat.pow_succ] at hX
      · rw [Nat.div_lt_iff_lt_mul (by omega)]; rwa [Nat.pow_succ] at hY
      · apply List.ext_getElem?
        intro j
        rcases Nat.lt_or_ge j N with hlt | hge
        · rw [bytesOf_get _ _ _ hlt, bytesOf_get _ _ _ hlt]
          have := hj j (by omega)
          unfold byteAt at this ⊢
          rw [show N + 1 - 1 - j = 1 + (N - 1 - j) from by omega, p256, Nat.pow_one, ← Nat.div_div_eq_div_mul, ← Nat.div_div_eq_div_mul] at this
          rw [this]
        · rw [List.getElem?_eq_none (by rw [bytesOf_len]; exact hge), List.getElem?_eq_none (by rw [bytesOf_len]; exact hge)]
    omega
/-- A row of bytes is the bytes of its number. -/
theorem bytesOf_packV (l : List Int) (h : U8 l) : bytesOf (packV l 8) l.length = l := by
  apply List.ext_getElem?
  intro j
  rcases Nat.lt_or_ge j l.length with hlt | hge
  · rw [bytesOf_get _ _ _ hlt]
    have e := packV_get l 8 (fun y hy => by have := h y hy; omega) j hlt
    unfold byteAt
    rw [pow8, Nat.mul_comm 8]
    rw [show (256 : Nat) = 2 ^ 8 from rfl, e]
    have h2 := h _ (getD_mem l j hlt)
    rw [List.getElem?_eq_getElem hlt]
    rw [show l.getD j 0 = l[j] from by simp [List.getD, hlt]] at h2 ⊢
    congr 1; omega
  · rw [List.getElem?_eq_none (by rw [bytesOf_len]; exact hge), List.getElem?_eq_none hge]
/-- The numbers of which a number is made. -/
def bitsL (F T x m : Nat) : List Int := (List.range m).map fun i => (bitsV F T (i * x) x : Int)
theorem bitsL_len (F T x m : Nat) : (bitsL F T x m).length = m := by simp [bitsL]
theorem bitsL_snoc (F T x m : Nat) : bitsL F T x (m + 1) = bitsL F T x m ++ [(bitsV F T (m * x) x : Int)] := by simp [bitsL, List.range_succ]
theorem packV_bitsL (F T x m : Nat) (hF : F < 2 ^ T) (h : m * x ≤ T) : packV (bitsL F T x m) x = F / 2 ^ (T - m * x) := by
  induction m with
  | zero => simp [bitsL, packV, Nat.div_eq_of_lt hF]
  | succ m ih =>
    rw [Nat.add_mul, Nat.one_mul] at h
    rw [bitsL_snoc, packV_snoc, ih (by omega), Int.toNat_natCast]
    unfold bitsV
    rw [Nat.add_mul, Nat.one_mul, show T - m * x = T - (m * x + x) + x from by omega, Nat.pow_add, ← Nat.div_div_eq_div_mul]
    generalize F / 2 ^ (T - (m * x + x)) = q
    rw [Nat.mul_comm]
    exact Nat.div_add_mod _ _
/-- What Unpack answers. -/
def unpackR (l : List Int) (m x : Int) : List Int × List Int × Int :=
  if fitsB m x = false then ([], [], 1)
  else if l.length < (sizeN m x).toNat then ([], [], 2)
  else
    let n := (sizeN m x).toNat
    let F := packV (l.take n) 8
    if F % 2 ^ (8 * n - m.toNat * x.toNat) = 0 then (bitsL F (8 * n) x.toNat m.toNat, l.drop n, 0) else ([], [], 2)
end Go.Proofs.Ytmejoococajikaa

/- The reference of bits.Unpack. -/
namespace Go.Proofs.Ytmejoococajikaa
open Go.RowKit

/-- Two rows are handed back: numbers, bytes, and the error. -/
def UnpackOut (w : World) (l1 l2 : List Int) (er : Int) (e : Ending) (w' : World) : Prop :=
  ∃ G n c G2 n2 c2, e = .returned (.tuple #[.slice G n c, .slice G2 n2 c2, .int .i64 er]) ∧ Sl w' .u64 G n c l1 ∧ Sl w' .u8 G2 n2 c2 l2 ∧ Below w.heap.size w w'
theorem UnpackOut.nil {w w' : World} {er : Int} (h : Below w.heap.size w w') : UnpackOut w [] [] er (.returned (.tuple #[.slice none 0 0, .slice none 0 0, .int .i64 er])) w' :=
  ⟨none, 0, 0, none, 0, 0, rfl, Sl.nil _ _, Sl.nil _ _, h⟩
theorem bits_room (F T x m : Nat) (_hx : x ≤ 64) : (bitsL F T x m).all (roomB x) = true := by
  rw [List.all_eq_true]
  intro y hy
  obtain ⟨i, _, rfl⟩ := List.mem_map.1 hy
  refine decide_eq_true (.inr ?_)
  rw [Int.toNat_natCast]; exact bitsV_lt _ _ _ _
theorem bits_u64 (F T x m : Nat) (hx : x ≤ 64) : U64 (bitsL F T x m) := by
  intro y hy
  obtain ⟨i, _, rfl⟩ := List.mem_map.1 hy
  have h1 := bitsV_lt F T (i * x) x
  have h2 : 2 ^ x ≤ 2 ^ 64 := Nat.pow_le_pow_right (by omega) hx
  omega
/-- Packed anew. -/
theorem pack_again (F N x m : Nat) (hx : x ≤ 64) (hm : m ≤ 4096) (hN : N = (m * x + 7) / 8) (hF : F < 256 ^ N) :
    packR (bitsL F (8 * N) x m) x = (bytesOf (F / 2 ^ (8 * N - m * x) * 2 ^ (8 * N - m * x)) N, 0) := by
  unfold packR
  rw [if_neg (by omega), bitsL_len, if_neg (by omega), Int.toNat_natCast, if_pos (bits_room _ _ _ _ hx), packV_bitsL _ _ _ _ (by rwa [← pow8]) (by omega), ← hN]
theorem again_same (F N k : Nat) (hF : F < 256 ^ N) : bytesOf (F / 2 ^ k * 2 ^ k) N = bytesOf F N ↔ F % 2 ^ k = 0 := by
  constructor
  · intro h
    have hle : F / 2 ^ k * 2 ^ k ≤ F := Nat.div_mul_le_self _ _
    have e := bytesOf_inj _ _ N (by omega) hF h
    rw [← e]; exact Nat.mul_mod_left _ _
  · intro h
    rw [Nat.div_mul_cancel (Nat.dvd_of_mod_eq_zero h)]
/-- One bit more. -/
theorem bit_step (F N a t : Nat) (y : Nat) (h : a + t < 8 * N) (hy : y = byteAt F N ((a + t) / 8)) (ht : t < 64) :
    ∃ d : Nat, bits BinOp.and IntKind.u8 ((y : Int) / 2 ^ (7 - (a + t) % 8)) 1 = (d : Int) ∧ d < 2 ∧ bitsV F (8 * N) a t < 9223372036854775808 ∧ 2 * (bitsV F (8 * N) a t : Int) + (d : Int) = (bitsV F (8 * N) a (t + 1) : Int) := by
  refine ⟨byteAt F N ((a + t) / 8) / 2 ^ (7 - (a + t) % 8) % 2, ?_, Nat.mod_lt _ (by omega), ?_, ?_⟩
  · subst hy
    rw [cast_shr]
    have h1 : byteAt F N ((a + t) / 8) / 2 ^ (7 - (a + t) % 8) < 256 := Nat.lt_of_le_of_lt (Nat.div_le_self _ _) (byteAt_lt _ _ _)
    have := u8_and_nat (byteAt F N ((a + t) / 8) / 2 ^ (7 - (a + t) % 8)) 1 h1 (by omega)
    rw [Nat.and_one_is_mod] at this
    exact this
  · have h1 := bitsV_lt F (8 * N) a t
    have h2 : 2 ^ t ≤ 2 ^ 63 := Nat.pow_le_pow_right (by omega) (by omega)
    omega
  · rw [bit_byte _ _ _ h, bitsV_add _ _ _ _ _ (by omega), Nat.pow_one]
    omega

end Go.Proofs.Ytmejoococajikaa

/- The closure that takes bits. -/
namespace Go.Proofs.Ytmejoococajikaa
open Go.RowKit

end Go.Proofs.Ytmejoococajikaa

/- bits.Unpack. -/
namespace Go.Proofs.Ytmejoococajikaa
open Go.RowKit

/-- The world while numbers are unpacked: the two boxes, the numbers so far. -/
def UnpW (w0 wr : World) (A : Option Addr) (n cap p : Nat) : Prop :=
  Blk wr w0.heap.size 49 #[.slice A n cap] ∧ Blk wr (w0.heap.size + 1) 3 #[.int .i64 p] ∧ Below w0.heap.size w0 wr
theorem UnpW.size {w0 wr : World} {A : Option Addr} {n cap p : Nat} (h : UnpW w0 wr A n cap p) : w0.heap.size + 2 ≤ wr.heap.size := by
  have := h.2.1.lt; omega
theorem UnpW.set_ {w0 wr : World} {A : Option Addr} {n cap p q nq : Nat} (h : UnpW w0 wr A n cap p) : UnpW w0 ((wr.setCell ⟨w0.heap.size + 1, 0, none⟩ (.int .i64 q)).drewN nq) A n cap q :=
  ⟨(h.1.far (by simp) _).drewN _, (h.2.1.set_ 0 (.int .i64 q)).drewN _, below_drewN (h.2.2.setCell (Nat.le_succ _) _) _⟩
theorem UnpW.own {w0 wr : World} {A : Option Addr} {n cap p q nq k : Nat} {v : Value} {xs : List Value} {e : TypeId} (_h : UnpW w0 wr A n cap p) (ho : wr.ownsRow (w0.heap.size + 2) e 1 v k xs) :
    ((wr.setCell ⟨w0.heap.size + 1, 0, none⟩ (.int .i64 q)).drewN nq).ownsRow (w0.heap.size + 2) e 1 v k xs := by
  have h := ownsRow_setCell_below ho (a := ⟨w0.heap.size + 1, 0, none⟩) (by simp) (.int .i64 q)
  exact h
theorem UnpW.below {w0 wr w1 : World} {A : Option Addr} {n cap p : Nat} (h : UnpW w0 wr A n cap p) (hb : Below (w0.heap.size + 2) wr w1) : UnpW w0 w1 A n cap p :=
  ⟨h.1.below hb (by omega), h.2.1.below hb (by omega), h.2.2.trans (hb.mono (by omega))⟩

/-- The place that the box holds. -/
def placeOf (w : World) (b : Nat) : Nat := match w.cell? ⟨b, 0, none⟩ with | some (.int _ v) => v.toNat | _ => 0
theorem UnpW.place {w0 wr : World} {A : Option Addr} {n cap p : Nat} (h : UnpW w0 wr A n cap p) : placeOf wr (w0.heap.size + 1) = p := by
  unfold placeOf
  rw [h.2.1.cell]; simp
/-- Some bits more. -/
theorem or_step (F T p t m : Nat) (h : p + t + m ≤ T) (ht : t + m ≤ 64) :
    bitsV F T (p + t) m < 18446744073709551616 ∧ bits BinOp.or IntKind.u64 (IntKind.u64.wrap ((bitsV F T p t : Int) * 2 ^ m)) (bitsV F T (p + t) m : Int) = (bitsV F T p (t + m) : Int) := by
  have h1 := bitsV_lt F T (p + t) m
  have h2 := bitsV_lt F T p (t + m)
  have h3 : 2 ^ (t + m) ≤ 2 ^ 64 := Nat.pow_le_pow_right (by omega) ht
  have h4 : 2 ^ m ≤ 2 ^ (t + m) := Nat.pow_le_pow_right (by omega) (by omega)
  have h5 := bitsV_add F T p t m h
  have e1 : IntKind.u64.wrap ((bitsV F T p t : Int) * 2 ^ m) = ((bitsV F T p t * 2 ^ m : Nat) : Int) := by
    have e2 : (bitsV F T p t : Int) * 2 ^ m = ((bitsV F T p t * 2 ^ m : Nat) : Int) := by rw [Int.natCast_mul, Int.natCast_pow]; rfl
    rw [e2, IntWalk.u64_in _ (by omega)]
  refine ⟨by omega, ?_⟩
  rw [e1, u64_or_nat _ _ (by omega) (by omega), or_add _ _ m (Nat.mul_mod_left _ _) h1, ← h5]
end Go.Proofs.Ytmejoococajikaa

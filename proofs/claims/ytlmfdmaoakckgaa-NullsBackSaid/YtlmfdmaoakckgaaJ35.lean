/- Joined texts: PlainU. Each has its own head line. No condition beyond those that its theorems state. -/
import Derived.Test.YtlmfdmaoakckgaaJ19
set_option linter.unusedVariables false

/- Plain laws: bits of a number. -/
namespace Go.Proofs.Ytlmfdmaoakckgaa

theorem snoc_ind {p : List Int → Prop} (h0 : p []) (h1 : ∀ l y, p l → p (l ++ [y])) (l : List Int) : p l := by
  have : ∀ k : List Int, p k.reverse := by
    intro k
    induction k with
    | nil => exact h0
    | cons y k ih => rw [List.reverse_cons]; exact h1 _ _ ih
  rw [← List.reverse_reverse l]; exact this _
/-- k bits of a number of T bits, from place a. -/
def bitsV (F T a k : Nat) : Nat := F / 2 ^ (T - (a + k)) % 2 ^ k
theorem bitsV_lt (F T a k : Nat) : bitsV F T a k < 2 ^ k := Nat.mod_lt _ (Nat.two_pow_pos _)
theorem bitsV_add (F T a k m : Nat) (h : a + k + m ≤ T) : bitsV F T a (k + m) = bitsV F T a k * 2 ^ m + bitsV F T (a + k) m := by
  unfold bitsV
  have e : T - (a + k) = T - (a + k + m) + m := by omega
  rw [e, ← Nat.add_assoc, Nat.pow_add 2 (T - (a + k + m)) m, ← Nat.div_div_eq_div_mul]
  generalize F / 2 ^ (T - (a + k + m)) = q
  rw [Nat.pow_add, Nat.mul_comm (2 ^ k), Nat.mod_mul, Nat.add_comm, Nat.mul_comm (2 ^ m)]
/-- What is taken of a byte. -/
theorem bits_byte (F N a m : Nat) (h : a + m ≤ 8 * N) (hm0 : 1 ≤ m) (hm : m ≤ 8 - a % 8) :
    byteAt F N (a / 8) * 2 ^ (a % 8) % 256 / 2 ^ (8 - m) = bitsV F (8 * N) a m := by
  unfold byteAt bitsV
  have e0 : (256 : Nat) = 2 ^ (8 - a % 8) * 2 ^ (a % 8) := by rw [← Nat.pow_add, show 8 - a % 8 + a % 8 = 8 from by omega]
  have e1 : 256 ^ (N - 1 - a / 8) = 2 ^ (8 * (N - 1 - a / 8)) := pow8 _
  rw [e1]
  have e2 : 8 * N - (a + m) = 8 * (N - 1 - a / 8) + (8 - a % 8 - m) := by omega
  rw [e2, Nat.pow_add, ← Nat.div_div_eq_div_mul]
  generalize F / 2 ^ (8 * (N - 1 - a / 8)) = q
  have e3 : q % 256 * 2 ^ (a % 8) % 256 = q % 2 ^ (8 - a % 8) * 2 ^ (a % 8) := by
    rw [Nat.mod_mul_mod]
    conv => lhs; rw [e0]
    exact Nat.mul_mod_mul_right _ _ _
  rw [e3]
  have e4 : 2 ^ (8 - m) = 2 ^ (a % 8) * 2 ^ (8 - a % 8 - m) := by rw [← Nat.pow_add]; congr 1; omega
  rw [e4, ← Nat.div_div_eq_div_mul, Nat.mul_div_cancel _ (Nat.two_pow_pos _)]
  have e5 : 2 ^ (8 - a % 8) = 2 ^ (8 - a % 8 - m) * 2 ^ m := by rw [← Nat.pow_add]; congr 1; omega
  rw [e5, Nat.mod_mul_right_div_self]
theorem bit_byte (F N a : Nat) (h : a < 8 * N) :
    byteAt F N (a / 8) / 2 ^ (7 - a % 8) % 2 = bitsV F (8 * N) a 1 := by
  unfold byteAt bitsV
  have e1 : 256 ^ (N - 1 - a / 8) = 2 ^ (8 * (N - 1 - a / 8)) := pow8 _
  rw [e1]
  have e2 : 8 * N - (a + 1) = 8 * (N - 1 - a / 8) + (7 - a % 8) := by omega
  rw [e2, Nat.pow_add, ← Nat.div_div_eq_div_mul]
  generalize F / 2 ^ (8 * (N - 1 - a / 8)) = q
  have e0 : (256 : Nat) = 2 ^ (7 - a % 8) * 2 ^ (1 + a % 8) := by rw [← Nat.pow_add, show 7 - a % 8 + (1 + a % 8) = 8 from by omega]
  rw [e0, Nat.mod_mul_right_div_self, Nat.pow_add, Nat.pow_one, Nat.mod_mul_right_mod]
theorem packV_lt (l : List Int) (x : Nat) (h : ∀ y ∈ l, y.toNat < 2 ^ x) : packV l x < 2 ^ (l.length * x) := by
  induction l using snoc_ind with
  | h0 => simp [packV]
  | h1 l y ih =>
    have h1 := ih fun z hz => h z (by simp [hz])
    have h2 := h y (by simp)
    rw [packV_snoc, List.length_append, List.length_singleton, Nat.add_mul, Nat.one_mul, Nat.pow_add]
    have h3 : packV l x * 2 ^ x + 2 ^ x ≤ 2 ^ (l.length * x) * 2 ^ x := by
      rw [← Nat.succ_mul]; exact Nat.mul_le_mul_right _ h1
    omega
/-- A number in the row of packed ones. -/
theorem packV_get (l : List Int) (x : Nat) (h : ∀ y ∈ l, y.toNat < 2 ^ x) (i : Nat) (hi : i < l.length) :
    packV l x / 2 ^ ((l.length - 1 - i) * x) % 2 ^ x = (l.getD i 0).toNat := by
  induction l using snoc_ind with
  | h0 => simp at hi
  | h1 l y ih =>
    have h2 := h y (by simp)
    rw [packV_snoc]
    simp only [List.length_append, List.length_singleton] at hi ⊢
    rcases Nat.lt_or_ge i l.length with hlt | hge
    · have e : l.length + 1 - 1 - i = (l.length - 1 - i) + 1 := by omega
      rw [e, Nat.add_mul, Nat.one_mul, Nat.add_comm _ y.toNat, Nat.add_comm _ x, Nat.pow_add, ← Nat.div_div_eq_div_mul, Nat.add_mul_div_right _ _ (Nat.two_pow_pos _), Nat.div_eq_of_lt h2, Nat.zero_add, ih (fun z hz => h z (by simp [hz])) hlt]
      simp [List.getD, List.getElem?_append_left hlt]
    · obtain rfl : i = l.length := by omega
      rw [show l.length + 1 - 1 - l.length = 0 from by omega, Nat.zero_mul, Nat.pow_zero, Nat.div_one, Nat.add_comm, Nat.add_mul_mod_self_right, Nat.mod_eq_of_lt h2]
      simp [List.getD]
theorem bytesOf_inj (X Y N : Nat) (hX : X < 256 ^ N) (hY : Y < 256 ^ N) (h : bytesOf X N = bytesOf Y N) : X = Y := by
  induction N generalizing X Y with
  | zero => simp at hX hY; omega
  | succ N ih =>
    have hj : ∀ j, j < N + 1 → byteAt X (N + 1) j = byteAt Y (N + 1) j := by
      intro j hj
      have := congrArg (fun l => l[j]?) h
      simp only [bytesOf_get _ _ _ hj, Option.some.injEq] at this
      omega
    have e1 : X % 256 = Y % 256 := by have := hj N (by omega); simpa [byteAt] using this
    have e2 : X / 256 = Y / 256 := by
      apply ih
      · rw [Nat.div_lt_iff_lt_mul (by omega)]; rwa [Nat.pow_succ] at hX
      · rw [Nat.div_lt_iff_lt_mul (by omega)]; rwa [Nat.pow_succ] at hY
      · apply List.ext_getElem?
        intro j
        rcases Nat.lt_or_ge j N with hlt | hge
        · rw [bytesOf_get _ _ _ hlt, bytesOf_get _ _ _ hlt]
          have := hj j (by omega)
          unfold byteAt at this ⊢
          rw [show N + 1 - 1 - j = 1 + (N - 1 - j) from by omega, p256, Nat.pow_one, ← Nat.div_div_eq_div_mul, ← Nat.div_div_eq_div_mul] at this
          rw [this]
        · rw [List.getElem?_eq_none (by rw [bytesOf_len]; exact hge), List.getElem?_eq_none (by rw [bytesOf_len]; exact hge)]
    omega
/-- A row of bytes is the bytes of its number. -/
theorem bytesOf_packV (l : List Int) (h : U8 l) : bytesOf (packV l 8) l.length = l := by
  apply List.ext_getElem?
  intro j
  rcases Nat.lt_or_ge j l.length with hlt | hge
  · rw [bytesOf_get _ _ _ hlt]
    have e := packV_get l 8 (fun y hy => by have := h y hy; omega) j hlt
    unfold byteAt
    rw [pow8, Nat.mul_comm 8]
    rw [show (256 : Nat) = 2 ^ 8 from rfl, e]
    have h2 := h _ (getD_mem l j hlt)
    rw [List.getElem?_eq_getElem hlt]
    rw [show l.getD j 0 = l[j] from by simp [List.getD, hlt]] at h2 ⊢
    congr 1; omega
  · rw [List.getElem?_eq_none (by rw [bytesOf_len]; exact hge), List.getElem?_eq_none hge]
/-- The numbers of which a number is made. -/
def bitsL (F T x m : Nat) : List Int := (List.range m).map fun i => (bitsV F T (i * x) x : Int)
theorem bitsL_len (F T x m : Nat) : (bitsL F T x m).length = m := by simp [bitsL]
theorem bitsL_snoc (F T x m : Nat) : bitsL F T x (m + 1) = bitsL F T x m ++ [(bitsV F T (m * x) x : Int)] := by simp [bitsL, List.range_succ]
theorem packV_bitsL (F T x m : Nat) (hF : F < 2 ^ T) (h : m * x ≤ T) : packV (bitsL F T x m) x = F / 2 ^ (T - m * x) := by
  induction m with
  | zero => simp [bitsL, packV, Nat.div_eq_of_lt hF]
  | succ m ih =>
    rw [Nat.add_mul, Nat.one_mul] at h
    rw [bitsL_snoc, packV_snoc, ih (by omega), Int.toNat_natCast]
    unfold bitsV
    rw [Nat.add_mul, Nat.one_mul, show T - m * x = T - (m * x + x) + x from by omega, Nat.pow_add, ← Nat.div_div_eq_div_mul]
    generalize F / 2 ^ (T - (m * x + x)) = q
    rw [Nat.mul_comm]
    exact Nat.div_add_mod _ _
/-- What Unpack answers. -/
def unpackR (l : List Int) (m x : Int) : List Int × List Int × Int :=
  if fitsB m x = false then ([], [], 1)
  else if l.length < (sizeN m x).toNat then ([], [], 2)
  else
    let n := (sizeN m x).toNat
    let F := packV (l.take n) 8
    if F % 2 ^ (8 * n - m.toNat * x.toNat) = 0 then (bitsL F (8 * n) x.toNat m.toNat, l.drop n, 0) else ([], [], 2)
end Go.Proofs.Ytlmfdmaoakckgaa

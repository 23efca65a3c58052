/- Joined texts: PlainB, PlainVI. Each has its own head line. No condition beyond those that its theorems state. -/
import Derived.Laws.BitsAllLaws
import Derived.Laws.BitsLemmas
import Derived.Test.YtmejoococajikaaGreatJ01
set_option linter.unusedVariables false

/- Plain laws on bytes of a number, the highest first. -/
namespace Go.Proofs.YtmejoococajikaaGreat

/-- Byte j of N, the highest first. -/
def byteAt (X N j : Nat) : Nat := X / 256 ^ (N - 1 - j) % 256
theorem byteAt_lt (X N j : Nat) : byteAt X N j < 256 := Nat.mod_lt _ (by omega)
/-- The bytes of a number. -/
def bytesOf (X N : Nat) : List Int := (List.range N).map fun j => (byteAt X N j : Int)
theorem bytesOf_len (X N : Nat) : (bytesOf X N).length = N := by simp [bytesOf]
theorem bytesOf_get (X N j : Nat) (h : j < N) : (bytesOf X N)[j]? = some (byteAt X N j : Int) := by simp [bytesOf, h]
theorem p256 (a b : Nat) : 256 ^ (a + b) = 256 ^ a * 256 ^ b := Nat.pow_add 256 a b
theorem pow8 (k : Nat) : (256 : Nat) ^ k = 2 ^ (8 * k) := by rw [show (256 : Nat) = 2 ^ 8 from rfl, ← Nat.pow_mul]

theorem byteAt_add (X N j d i : Nat) (hj : j < N) (hi : i < N) (hd : byteAt X N j + d < 256) :
    byteAt (X + d * 256 ^ (N - 1 - j)) N i = if i = j then byteAt X N j + d else byteAt X N i := by
  unfold byteAt at *
  have hP : 0 < 256 ^ (N - 1 - j) := Nat.pow_pos (by omega)
  rcases Nat.lt_trichotomy i j with h | h | h
  · rw [if_neg (by omega)]
    have e : N - 1 - i = (N - 1 - j) + ((j - i - 1) + 1) := by omega
    rw [e, p256, p256, Nat.pow_one, Nat.mul_comm (256 ^ (j - i - 1)) 256, ← Nat.div_div_eq_div_mul, ← Nat.div_div_eq_div_mul, ← Nat.div_div_eq_div_mul, ← Nat.div_div_eq_div_mul, Nat.add_mul_div_right _ _ hP]
    generalize X / 256 ^ (N - 1 - j) = q at *
    rw [show (q + d) / 256 = q / 256 from by omega]
  · subst h
    rw [if_pos rfl, Nat.add_mul_div_right _ _ hP]
    generalize X / 256 ^ (N - 1 - i) = q at *
    omega
  · rw [if_neg (by omega)]
    have e : d * 256 ^ (N - 1 - j) = (d * 256 ^ (i - j - 1) * 256) * 256 ^ (N - 1 - i) := by
      rw [show N - 1 - j = (N - 1 - i) + ((i - j - 1) + 1) from by omega, p256, p256, Nat.pow_one, Nat.mul_comm (256 ^ (N - 1 - i)), ← Nat.mul_assoc, ← Nat.mul_assoc]
    have hQ : 0 < 256 ^ (N - 1 - i) := Nat.pow_pos (by omega)
    rw [e, Nat.add_mul_div_right _ _ hQ]
    omega

/-- One byte grows. -/
theorem bytesOf_add (X N j d : Nat) (hj : j < N) (hd : byteAt X N j + d < 256) :
    bytesOf (X + d * 256 ^ (N - 1 - j)) N = (bytesOf X N).set j ((byteAt X N j + d : Nat) : Int) := by
  apply List.ext_getElem?
  intro i
  rw [List.getElem?_set]
  rcases Nat.lt_or_ge i N with h | h
  · rw [bytesOf_get _ _ _ h, byteAt_add X N j d i hj h hd]
    by_cases e : i = j
    · subst e; rw [if_pos rfl, if_pos rfl, bytesOf_len, if_pos h]
    · rw [if_neg e, if_neg (Ne.symm e), bytesOf_get _ _ _ h]
  · rw [List.getElem?_eq_none (by rw [bytesOf_len]; exact h), if_neg (by omega), List.getElem?_eq_none (by rw [bytesOf_len]; exact h)]

/-- A byte of a number that is a multiple of a power. -/
theorem byteAt_dvd (X N j r : Nat) (hX : X % 2 ^ (8 * (N - 1 - j) + r) = 0) (hr : r ≤ 8) : byteAt X N j % 2 ^ r = 0 := by
  unfold byteAt
  obtain ⟨k, rfl⟩ := Nat.dvd_of_mod_eq_zero hX
  rw [pow8, Nat.pow_add, Nat.mul_assoc, Nat.mul_div_cancel_left _ (Nat.two_pow_pos _)]
  have e : (256 : Nat) = 2 ^ r * 2 ^ (8 - r) := by rw [← Nat.pow_add, show r + (8 - r) = 8 from by omega]
  rw [e, Nat.mul_mod_mul_left, Nat.mul_mod_right]
theorem byteAt_zero (X N j m : Nat) (hX : X % 2 ^ m = 0) (hm : 8 * (N - 1 - j) + 8 ≤ m) : byteAt X N j = 0 := by
  have h := byteAt_dvd X N j 8 (by
    obtain ⟨k, rfl⟩ := Nat.dvd_of_mod_eq_zero hX
    rw [show m = (8 * (N - 1 - j) + 8) + (m - (8 * (N - 1 - j) + 8)) from by omega, Nat.pow_add, Nat.mul_assoc, Nat.mul_mod_right]) (Nat.le_refl _)
  have := byteAt_lt X N j
  omega
theorem or_add (y d r : Nat) (hy : y % 2 ^ r = 0) (hd : d < 2 ^ r) : y ||| d = y + d := by
  obtain ⟨k, rfl⟩ := Nat.dvd_of_mod_eq_zero hy
  exact (Nat.two_pow_add_eq_or_of_lt hd k).symm

/-- Bits that fit into the byte that is begun: what the byte becomes, and the number. -/
theorem put_fits (X N at_ n c : Nat) (hN : at_ + n ≤ 8 * N) (hn0 : 1 ≤ n) (hX : X % 2 ^ (8 * N - at_) = 0) (hc : c < 2 ^ n) (hn : n ≤ 8 - at_ % 8) :
    byteAt X N (at_ / 8) ||| (c * 2 ^ (8 - at_ % 8 - n) % 256) = byteAt X N (at_ / 8) + c * 2 ^ (8 - at_ % 8 - n) ∧
    byteAt X N (at_ / 8) + c * 2 ^ (8 - at_ % 8 - n) < 256 ∧
    X + c * 2 ^ (8 * N - at_ - n) = X + (c * 2 ^ (8 - at_ % 8 - n)) * 256 ^ (N - 1 - at_ / 8) := by
  have hj : at_ / 8 < N := by omega
  have hd : c * 2 ^ (8 - at_ % 8 - n) < 2 ^ (8 - at_ % 8) := by
    have h := (Nat.mul_lt_mul_right (Nat.two_pow_pos (8 - at_ % 8 - n))).2 hc
    rwa [← Nat.pow_add, show n + (8 - at_ % 8 - n) = 8 - at_ % 8 from by omega] at h
  have hy := byteAt_dvd X N (at_ / 8) (8 - at_ % 8) (by rw [show 8 * (N - 1 - at_ / 8) + (8 - at_ % 8) = 8 * N - at_ from by omega]; exact hX) (by omega)
  have hlt := byteAt_lt X N (at_ / 8)
  have hsum : byteAt X N (at_ / 8) + c * 2 ^ (8 - at_ % 8 - n) < 256 := by
    obtain ⟨k, hk⟩ := Nat.dvd_of_mod_eq_zero hy
    have e : (256 : Nat) = 2 ^ (8 - at_ % 8) * 2 ^ (at_ % 8) := by rw [← Nat.pow_add, show 8 - at_ % 8 + at_ % 8 = 8 from by omega]
    rw [hk] at hlt ⊢
    rw [e] at hlt ⊢
    have h1 : k < 2 ^ (at_ % 8) := Nat.lt_of_mul_lt_mul_left hlt
    have h2 : 2 ^ (8 - at_ % 8) * (k + 1) ≤ 2 ^ (8 - at_ % 8) * 2 ^ (at_ % 8) := Nat.mul_le_mul_left _ h1
    rw [Nat.mul_add, Nat.mul_one] at h2
    omega
  have hd2 : c * 2 ^ (8 - at_ % 8 - n) % 256 = c * 2 ^ (8 - at_ % 8 - n) := Nat.mod_eq_of_lt (by omega)
  refine ⟨by rw [hd2]; exact or_add _ _ _ hy hd, hsum, ?_⟩
  rw [pow8, Nat.mul_assoc, ← Nat.pow_add, show 8 - at_ % 8 - n + 8 * (N - 1 - at_ / 8) = 8 * N - at_ - n from by omega]

/-- Bits that go into two bytes. -/
theorem put_two (X N at_ n c : Nat) (hN : at_ + n ≤ 8 * N) (hX : X % 2 ^ (8 * N - at_) = 0) (hc : c < 2 ^ n) (hn : 8 - at_ % 8 < n) (hn8 : n ≤ 8) :
    byteAt X N (at_ / 8) ||| (c / 2 ^ (n - (8 - at_ % 8))) = byteAt X N (at_ / 8) + c / 2 ^ (n - (8 - at_ % 8)) ∧
    byteAt X N (at_ / 8) + c / 2 ^ (n - (8 - at_ % 8)) < 256 ∧
    byteAt X N (at_ / 8 + 1) = 0 ∧ at_ / 8 + 1 < N ∧
    X + c * 2 ^ (8 * N - at_ - n) = X + (c / 2 ^ (n - (8 - at_ % 8))) * 256 ^ (N - 1 - at_ / 8) + (c * 2 ^ (8 - n + (8 - at_ % 8)) % 256) * 256 ^ (N - 1 - (at_ / 8 + 1)) := by
  obtain ⟨m, hm⟩ : ∃ m, m = n - (8 - at_ % 8) := ⟨_, rfl⟩
  rw [← hm, show 8 - n + (8 - at_ % 8) = 8 - m from by omega]
  have hj1 : at_ / 8 + 1 < N := by omega
  have hch : c / 2 ^ m < 2 ^ (8 - at_ % 8) := by
    rw [Nat.div_lt_iff_lt_mul (Nat.two_pow_pos _), ← Nat.pow_add, show 8 - at_ % 8 + m = n from by omega]
    exact hc
  have hy := byteAt_dvd X N (at_ / 8) (8 - at_ % 8) (by rw [show 8 * (N - 1 - at_ / 8) + (8 - at_ % 8) = 8 * N - at_ from by omega]; exact hX) (by omega)
  have hlt := byteAt_lt X N (at_ / 8)
  refine ⟨or_add _ _ _ hy hch, ?_, byteAt_zero X N _ _ hX (by omega), hj1, ?_⟩
  · obtain ⟨k, hk⟩ := Nat.dvd_of_mod_eq_zero hy
    have e : (256 : Nat) = 2 ^ (8 - at_ % 8) * 2 ^ (at_ % 8) := by rw [← Nat.pow_add, show 8 - at_ % 8 + at_ % 8 = 8 from by omega]
    rw [hk] at hlt ⊢
    rw [e] at hlt ⊢
    have h1 : k < 2 ^ (at_ % 8) := Nat.lt_of_mul_lt_mul_left hlt
    have h2 : 2 ^ (8 - at_ % 8) * (k + 1) ≤ 2 ^ (8 - at_ % 8) * 2 ^ (at_ % 8) := Nat.mul_le_mul_left _ h1
    rw [Nat.mul_add, Nat.mul_one] at h2
    omega
  · have hcl : c % 2 ^ m < 2 ^ m := Nat.mod_lt _ (Nat.two_pow_pos _)
    have e256 : 2 ^ m * 2 ^ (8 - m) = 256 := by rw [← Nat.pow_add, show m + (8 - m) = 8 from by omega]
    have hmod : c * 2 ^ (8 - m) % 256 = c % 2 ^ m * 2 ^ (8 - m) := by
      rw [← e256, Nat.mul_mod_mul_right]
    have hsplit : c = 2 ^ m * (c / 2 ^ m) + c % 2 ^ m := (Nat.div_add_mod _ _).symm
    rw [hmod, pow8, pow8, Nat.add_assoc]
    congr 1
    have e1 : 2 ^ (8 * (N - 1 - at_ / 8)) = 2 ^ m * 2 ^ (8 * N - at_ - n) := by rw [← Nat.pow_add]; congr 1; omega
    have e2 : 2 ^ (8 - m) * 2 ^ (8 * (N - 1 - (at_ / 8 + 1))) = 2 ^ (8 * N - at_ - n) := by rw [← Nat.pow_add]; congr 1; omega
    rw [e1, Nat.mul_assoc (c % 2 ^ m), e2, ← Nat.mul_assoc, ← Nat.add_mul, Nat.mul_comm (c / 2 ^ m), ← hsplit]
end Go.Proofs.YtmejoococajikaaGreat

/- Plain laws of varint: seven bits a byte. -/
namespace Go.Proofs.YtmejoococajikaaGreat

def vputF : Nat → Nat → List Int
  | 0, x => [(x : Int)]
  | f + 1, x => if x < 128 then [(x : Int)] else ((x % 128 + 128 : Nat) : Int) :: vputF f (x / 128)
/-- The bytes of a number. -/
def vput (x : Nat) : List Int := vputF 9 x
def vval : List Int → Nat
  | [] => 0
  | c :: t => c.toNat % 128 + 128 * vval t
def lead : Nat → List Int → Nat
  | 0, _ => 0
  | _ + 1, [] => 0
  | f + 1, c :: t => if 128 ≤ c then lead f t + 1 else 0
def vtakeR (b : List Int) : Nat × List Int × Int :=
  if b.length ≤ lead 9 b then (0, [], 2)
  else if vput (vval (b.take (lead 9 b + 1)) % 18446744073709551616) = b.take (lead 9 b + 1) then (vval (b.take (lead 9 b + 1)) % 18446744073709551616, b.drop (lead 9 b + 1), 0)
  else (0, [], 2)

theorem vval_put (f : Nat) : ∀ x : Nat, x < 2 ^ (7 * f + 1) → vval (vputF f x) = x := by
  induction f with
  | zero => intro x hx; simp [vputF, vval]; omega
  | succ f ih =>
    intro x hx
    simp only [vputF]
    split
    · simp [vval]; omega
    · have h2 : x / 128 < 2 ^ (7 * f + 1) := by
        rw [Nat.div_lt_iff_lt_mul (by omega), show (128 : Nat) = 2 ^ 7 from rfl, ← Nat.pow_add]
        rwa [show 7 * f + 1 + 7 = 7 * (f + 1) + 1 from by omega]
      simp only [vval]
      rw [ih _ h2, Int.toNat_natCast]
      omega
theorem vput_len (f : Nat) : ∀ x : Nat, 1 ≤ (vputF f x).length ∧ (vputF f x).length ≤ f + 1 := by
  induction f with
  | zero => intro x; simp [vputF]
  | succ f ih =>
    intro x
    simp only [vputF]
    split
    · simp
    · have := ih (x / 128); simp only [List.length_cons]; omega
theorem vput_u8 (f : Nat) : ∀ x : Nat, x < 2 ^ (7 * f + 1) → U8 (vputF f x) := by
  induction f with
  | zero => intro x hx y hy; simp [vputF] at hy; subst hy; omega
  | succ f ih =>
    intro x hx
    simp only [vputF]
    split
    · intro y hy; simp at hy; subst hy; omega
    · have h2 : x / 128 < 2 ^ (7 * f + 1) := by
        rw [Nat.div_lt_iff_lt_mul (by omega), show (128 : Nat) = 2 ^ 7 from rfl, ← Nat.pow_add]
        rwa [show 7 * f + 1 + 7 = 7 * (f + 1) + 1 from by omega]
      intro y hy
      rcases List.mem_cons.1 hy with rfl | hy
      · omega
      · exact ih _ h2 y hy
/-- The last byte says so; it is not nought where there are others. -/
theorem vput_shape (f : Nat) : ∀ x : Nat, x < 2 ^ (7 * f + 1) → ∃ t c, vputF f x = t ++ [c] ∧ (∀ y ∈ t, 128 ≤ y ∧ y < 256) ∧ 0 ≤ c ∧ c < 128 ∧ (t = [] ∨ 0 < c) := by
  induction f with
  | zero => intro x hx; exact ⟨[], x, rfl, by simp, by omega, by omega, .inl rfl⟩
  | succ f ih =>
    intro x hx
    simp only [vputF]
    split
    · exact ⟨[], x, rfl, by simp, by omega, by omega, .inl rfl⟩
    · have h2 : x / 128 < 2 ^ (7 * f + 1) := by
        rw [Nat.div_lt_iff_lt_mul (by omega), show (128 : Nat) = 2 ^ 7 from rfl, ← Nat.pow_add]
        rwa [show 7 * f + 1 + 7 = 7 * (f + 1) + 1 from by omega]
      obtain ⟨t, c, e, h3, h4, h5, h6⟩ := ih _ h2
      refine ⟨((x % 128 + 128 : Nat) : Int) :: t, c, by rw [e]; rfl, ?_, h4, h5, .inr ?_⟩
      · intro y hy
        rcases List.mem_cons.1 hy with rfl | hy
        · omega
        · exact h3 y hy
      · rcases h6 with rfl | h6
        · have hv := vval_put f _ h2
          rw [e] at hv
          simp [vval] at hv
          omega
        · exact h6
theorem vval_append (t s : List Int) : vval (t ++ s) = vval t + 128 ^ t.length * vval s := by
  induction t with
  | nil => simp [vval]
  | cons a t ih => simp only [List.cons_append, vval, ih, List.length_cons, Nat.pow_succ]; rw [Nat.mul_add, ← Nat.mul_assoc, Nat.mul_comm 128 (128 ^ t.length)]; omega
theorem vval_lt (t : List Int) : vval t < 128 ^ t.length := by
  induction t with
  | nil => simp [vval]
  | cons a t ih => simp only [vval, List.length_cons, Nat.pow_succ]; omega
theorem vput_canon (t : List Int) (c : Int) : ∀ f, (∀ y ∈ t, 128 ≤ y ∧ y < 256) → 0 ≤ c → c < 128 → (t = [] ∨ 0 < c) → t.length ≤ f → vputF f (vval (t ++ [c])) = t ++ [c] := by
  induction t with
  | nil =>
    intro f _ h0 h1 _ _
    have e : vval ([] ++ [c]) = c.toNat := by simp [vval]; omega
    rw [e]
    cases f
    · simp [vputF]; omega
    · simp only [vputF]; rw [if_pos (by omega)]; simp; omega
  | cons a t ih =>
    intro f ht h0 h1 hc hl
    have hc' : 0 < c := by rcases hc with h | h; cases h; exact h
    obtain ⟨g, rfl⟩ : ∃ g, f = g + 1 := ⟨f - 1, by simp at hl; omega⟩
    have h2 := ih g (fun y hy => ht y (List.mem_cons_of_mem _ hy)) h0 h1 (.inr hc') (by simp at hl; omega)
    have ha := ht a List.mem_cons_self
    have hv : 0 < vval (t ++ [c]) := by
      rw [vval_append]
      have : 0 < 128 ^ t.length * vval [c] := Nat.mul_pos (Nat.pow_pos (by omega)) (by simp [vval]; omega)
      omega
    simp only [List.cons_append, vval, vputF]
    rw [if_neg (by omega), show (a.toNat % 128 + 128 * vval (t ++ [c])) / 128 = vval (t ++ [c]) from by omega, h2]
    congr 1
    omega
theorem lead_le (f : Nat) : ∀ b : List Int, lead f b ≤ f ∧ lead f b ≤ b.length := by
  induction f with
  | zero => intro b; simp [lead]
  | succ f ih =>
    intro b
    cases b with
    | nil => simp [lead]
    | cons c t =>
      simp only [lead]
      have := ih t
      split <;> simp <;> omega
theorem lead_ge (f : Nat) : ∀ (b : List Int) (i : Nat), i < lead f b → 128 ≤ b.getD i 0 := by
  induction f with
  | zero => intro b i h; simp [lead] at h
  | succ f ih =>
    intro b i h
    cases b with
    | nil => simp [lead] at h
    | cons c t =>
      simp only [lead] at h
      split at h
      · cases i with
        | zero => simpa using ‹128 ≤ c›
        | succ i => simpa using ih t i (by omega)
      · omega
theorem lead_stop (f : Nat) : ∀ (b : List Int), lead f b < f → lead f b < b.length → b.getD (lead f b) 0 < 128 := by
  induction f with
  | zero => intro b h; simp [lead] at h
  | succ f ih =>
    intro b h1 h2
    cases b with
    | nil => simp [lead] at h2
    | cons c t =>
      simp only [lead] at h1 h2 ⊢
      split
      · rename_i hc
        rw [if_pos hc] at h1 h2
        simp only [List.getD_cons_succ]
        exact ih t (by omega) (by simp at h2; omega)
      · simp only [List.getD_cons_zero]; omega
theorem take_lead (b : List Int) (hu : U8 b) (n : Nat) (hn : n < b.length) (hl : ∀ i, i < n → 128 ≤ b.getD i 0) : ∃ t c, b.take (n + 1) = t ++ [c] ∧ t.length = n ∧ t = b.take n ∧ c = b.getD n 0 ∧ (∀ y ∈ t, 128 ≤ y ∧ y < 256) := by
  refine ⟨b.take n, b.getD n 0, ?_, by rw [List.length_take]; omega, rfl, rfl, ?_⟩
  · rw [List.take_succ_eq_append_getElem hn]; simp [List.getD, List.getElem?_eq_getElem hn]
  · intro y hy
    obtain ⟨i, hi, rfl⟩ := List.mem_iff_getElem.1 hy
    rw [List.length_take] at hi
    have h1 := hl i (by omega)
    have h2 := hu _ (List.mem_of_mem_take hy)
    rw [List.getElem_take] at *
    simp only [List.getD, List.getElem?_eq_getElem (show i < b.length by omega), Option.getD_some] at h1
    exact ⟨h1, h2.2⟩
/-- When the bytes that are taken are those that would be put. -/
theorem vtake_good (b : List Int) (hu : U8 b) (hn : lead 9 b < b.length) :
    vput (vval (b.take (lead 9 b + 1)) % 18446744073709551616) = b.take (lead 9 b + 1) ↔ b.getD (lead 9 b) 0 < 128 ∧ ¬ (b.getD (lead 9 b) 0 = 0 ∧ 0 < lead 9 b) ∧ ¬ (lead 9 b = 9 ∧ 1 < b.getD (lead 9 b) 0) := by
  obtain ⟨t, c, e, ht, _, rfl, hy⟩ := take_lead b hu (lead 9 b) hn (lead_ge 9 b)
  have hc := hu _ (show b.getD (lead 9 b) 0 ∈ b by simp [List.getD, List.getElem?_eq_getElem hn])
  have hle := (lead_le 9 b).1
  rw [e]
  generalize lead 9 b = n at *
  generalize b.getD n 0 = c at *
  have hvt := vval_lt t
  have hvv : vval (t ++ [c]) = vval t + 128 ^ n * (c.toNat % 128) := by rw [vval_append, ht]; simp [vval]
  rw [ht] at hvt
  constructor
  · intro h
    have hx : vval (t ++ [c]) % 18446744073709551616 < 2 ^ (7 * 9 + 1) := Nat.mod_lt _ (by omega)
    obtain ⟨t', c', e', h1, h2, h3, h4⟩ := vput_shape 9 _ hx
    have hv := vval_put 9 _ hx
    unfold vput at h
    rw [h] at e' hv
    obtain ⟨rfl, h5⟩ := List.append_inj' e' rfl
    simp at h5
    subst h5
    refine ⟨h3, ?_, ?_⟩
    · rintro ⟨h6, h7⟩
      rcases h4 with h4 | h4
      · subst h4; simp at ht; omega
      · omega
    · rintro ⟨rfl, h6⟩
      rw [hvv] at hv
      have h7 : (128 : Nat) ^ 9 = 9223372036854775808 := by decide
      rw [h7] at hv
      have h8 : c.toNat % 128 = c.toNat := by omega
      rw [h8] at hv
      omega
  · rintro ⟨h1, h2, h3⟩
    have hlt : vval (t ++ [c]) < 18446744073709551616 := by
      rw [hvv]
      rcases Nat.lt_or_ge n 9 with h4 | h4
      · have h5 : 128 ^ (n + 1) ≤ 128 ^ 9 := Nat.pow_le_pow_right (by omega) (by omega)
        have h6 : 128 ^ n * (c.toNat % 128) ≤ 128 ^ n * 127 := Nat.mul_le_mul_left _ (by omega)
        rw [Nat.pow_succ] at h5
        have h7 : (128 : Nat) ^ 9 = 9223372036854775808 := by decide
        omega
      · obtain rfl : n = 9 := by omega
        have h7 : (128 : Nat) ^ 9 = 9223372036854775808 := by decide
        rw [h7] at hvt ⊢
        have h8 : c.toNat % 128 ≤ 1 := by omega
        omega
    rw [Nat.mod_eq_of_lt hlt]
    refine vput_canon t c 9 hy hc.1 h1 ?_ (by omega)
    rcases Nat.eq_zero_or_pos n with h0 | h0
    · exact .inl (List.eq_nil_of_length_eq_zero (by omega))
    · exact .inr (by omega)
theorem lead_put (t : List Int) (c : Int) (q : List Int) : ∀ f, (∀ y ∈ t, 128 ≤ y ∧ y < 256) → c < 128 → t.length ≤ f → lead f (t ++ c :: q) = t.length := by
  induction t with
  | nil =>
    intro f _ h _
    cases f
    · rfl
    · simp only [List.nil_append, lead]; rw [if_neg (by omega)]; rfl
  | cons a t ih =>
    intro f h1 h2 h3
    obtain ⟨g, rfl⟩ : ∃ g, f = g + 1 := ⟨f - 1, by simp at h3; omega⟩
    simp only [List.cons_append, lead]
    rw [if_pos (h1 a List.mem_cons_self).1, ih g (fun y hy => h1 y (List.mem_cons_of_mem _ hy)) h2 (by simp at h3; omega)]
    rfl
theorem vtake_put (x : Nat) (hx : x < 18446744073709551616) (q : List Int) : vtakeR (vput x ++ q) = (x, q, 0) := by
  obtain ⟨t, c, e, h1, h2, h3, h4⟩ := vput_shape 9 x hx
  have hl := vput_len 9 x
  have hv := vval_put 9 x hx
  unfold vtakeR
  have he : vput x = t ++ [c] := e
  rw [e] at hl hv
  simp at hl
  have hlead : lead 9 (t ++ [c] ++ q) = t.length := by
    rw [List.append_assoc]; exact lead_put t c q 9 h1 h3 (by omega)
  have htk : (t ++ [c] ++ q).take (t.length + 1) = t ++ [c] := by rw [List.take_left' (by simp)]
  have hdr : (t ++ [c] ++ q).drop (t.length + 1) = q := by rw [List.drop_left' (by simp)]
  rw [he, hlead, htk, hdr, hv, Nat.mod_eq_of_lt hx, if_neg (by simp), if_pos (by rw [he])]
theorem vtake_u8 (b : List Int) (hu : U8 b) : (vtakeR b).1 < 18446744073709551616 ∧ U8 (vtakeR b).2.1 ∧ ((vtakeR b).2.2 = 0 ∨ (vtakeR b).2.2 = 2) := by
  have hnil : U8 [] := fun y hy => by cases hy
  unfold vtakeR
  split
  · exact And.intro (by simp) (And.intro hnil (Or.inr rfl))
  · split
    · exact And.intro (Nat.mod_lt _ (by omega)) (And.intro (fun y hy => hu y (List.mem_of_mem_drop hy)) (Or.inl rfl))
    · exact And.intro (by simp) (And.intro hnil (Or.inr rfl))
end Go.Proofs.YtmejoococajikaaGreat

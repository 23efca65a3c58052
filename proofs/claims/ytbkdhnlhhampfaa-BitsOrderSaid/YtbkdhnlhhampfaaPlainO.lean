/- Plain laws: the order of packed numbers. -/
import Derived.Test.YtbkdhnlhhampfaaPlainV
namespace Go.Proofs.Ytbkdhnlhhampfaa
open Go.RowKit

theorem packV_cons (a : Int) (l : List Int) (x : Nat) : packV (a :: l) x = a.toNat * 2 ^ (l.length * x) + packV l x := by
  induction l using snoc_ind with
  | h0 => simp [packV]
  | h1 l y ih =>
    rw [← List.cons_append, packV_snoc, packV_snoc, ih, List.length_append, List.length_singleton, Nat.add_mul l.length, Nat.one_mul, Nat.pow_add, Nat.add_mul, Nat.mul_assoc]
    omega
/-- Which of two rows is less, as a number of digits of x bits. -/
def ltV (x : Nat) (l m : List Int) : Bool := decide (packV l x < packV m x)
theorem ltV_cons (x : Nat) (a b : Int) (l m : List Int) (hlen : l.length = m.length) (ha : 0 ≤ a) (hb : 0 ≤ b) (hl : ∀ y ∈ l, y.toNat < 2 ^ x) (hm : ∀ y ∈ m, y.toNat < 2 ^ x) :
    ltV x (a :: l) (b :: m) = (decide (a < b) || (decide (a = b) && ltV x l m)) := by
  unfold ltV
  rw [packV_cons, packV_cons, ← hlen]
  have h1 := packV_lt l x hl
  have h2 := packV_lt m x hm
  rw [← hlen] at h2
  generalize 2 ^ (l.length * x) = P at *
  generalize packV l x = r at *
  generalize packV m x = s at *
  obtain ⟨c, rfl⟩ := Int.eq_ofNat_of_zero_le ha
  obtain ⟨d, rfl⟩ := Int.eq_ofNat_of_zero_le hb
  simp only [Int.toNat_natCast]
  rw [Bool.eq_iff_iff]
  simp only [Bool.or_eq_true, Bool.and_eq_true, decide_eq_true_eq]
  rcases Nat.lt_trichotomy c d with h | h | h
  · have h3 : (c + 1) * P ≤ d * P := Nat.mul_le_mul_right _ h
    rw [Nat.add_mul, Nat.one_mul] at h3
    constructor
    · intro _; exact .inl (by omega)
    · intro _; omega
  · subst h
    constructor
    · intro h; exact .inr ⟨rfl, by omega⟩
    · rintro (h | ⟨_, h⟩) <;> omega
  · have h3 : (d + 1) * P ≤ c * P := Nat.mul_le_mul_right _ h
    rw [Nat.add_mul, Nat.one_mul] at h3
    constructor
    · intro _; omega
    · rintro (h | ⟨h, _⟩) <;> omega
theorem U8.lt8 {l : List Int} (h : U8 l) : ∀ y ∈ l, y.toNat < 2 ^ 8 := fun y hy => by have := h y hy; omega
theorem bytesLess_packV (p q : List Int) (hp : U8 p) (hq : U8 q) (hl : p.length = q.length) : Op.bytesLess (strOf p).toList (strOf q).toList = ltV 8 p q := by
  rw [strOf_toList, strOf_toList]
  induction p generalizing q with
  | nil =>
    cases q with
    | nil => rfl
    | cons b q => simp at hl
  | cons a p ih =>
    cases q with
    | nil => simp at hl
    | cons b q =>
      have ha := hp a List.mem_cons_self
      have hb := hq b List.mem_cons_self
      have hp' : U8 p := fun z hz => hp z (List.mem_cons_of_mem _ hz)
      have hq' : U8 q := fun z hz => hq z (List.mem_cons_of_mem _ hz)
      have hl' : p.length = q.length := by simpa using hl
      rw [ltV_cons 8 a b p q hl' ha.1 hb.1 hp'.lt8 hq'.lt8, ← ih q hp' hq' hl']
      simp only [List.map_cons, Op.bytesLess]
      congr 1
      · rw [Bool.eq_iff_iff]
        simp only [decide_eq_true_eq, UInt8.lt_iff_toNat_lt, UInt8.toNat_ofNat']
        omega
      · congr 1
        rw [Bool.eq_iff_iff, decide_eq_true_eq, beq_iff_eq, ← UInt8.toNat_inj, UInt8.toNat_ofNat', UInt8.toNat_ofNat']
        omega
theorem pack_order (l m : List Int) (k : Nat) (hk : k ≤ 64) (hlen : l.length = m.length) (hn : l.length ≤ 4096) (hl : U64 l) (hm : U64 m) (hrl : l.all (roomB k) = true) (hrm : m.all (roomB k) = true) :
    ∃ p q, packR l k = (p, 0) ∧ packR m k = (q, 0) ∧ U8 p ∧ U8 q ∧ p.length = q.length ∧ ltV 8 p q = ltV k l m := by
  obtain ⟨N, hN⟩ : ∃ N, N = (l.length * k + 7) / 8 := ⟨_, rfl⟩
  have hlk : l.length * k ≤ 8 * N := by omega
  have hV := packV_lt l k (room_lt l k hl hrl)
  have hV2 := packV_lt m k (room_lt m k hm hrm)
  have hX : ∀ V, V < 2 ^ (l.length * k) → V * 2 ^ (8 * N - l.length * k) < 256 ^ N := by
    intro V h
    have e : (256 : Nat) ^ N = 2 ^ (l.length * k) * 2 ^ (8 * N - l.length * k) := by rw [pow8, ← Nat.pow_add]; congr 1; omega
    rw [e]
    exact (Nat.mul_lt_mul_right (Nat.two_pow_pos _)).2 h
  have h1 := hX _ hV
  have h2 := hX (packV m k) (by rw [hlen]; exact hV2)
  refine ⟨bytesOf (packV l k * 2 ^ (8 * N - l.length * k)) N, bytesOf (packV m k * 2 ^ (8 * N - l.length * k)) N, ?_, ?_, bytesOf_u8 _ _, bytesOf_u8 _ _, by rw [bytesOf_len, bytesOf_len], ?_⟩
  · unfold packR
    rw [if_neg (by omega), if_neg (by omega), Int.toNat_natCast, if_pos hrl, ← hN]
  · unfold packR
    rw [if_neg (by omega), if_neg (by omega), Int.toNat_natCast, if_pos hrm, ← hlen, ← hN]
  · unfold ltV
    rw [packV_bytesOf _ _ h1, packV_bytesOf _ _ h2, Bool.eq_iff_iff, decide_eq_true_eq, decide_eq_true_eq]
    exact Nat.mul_lt_mul_right (Nat.two_pow_pos _)
end Go.Proofs.Ytbkdhnlhhampfaa

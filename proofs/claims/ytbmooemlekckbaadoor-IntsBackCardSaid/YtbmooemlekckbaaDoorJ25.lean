/- Joined texts: PlainR. Each has its own head line. No condition beyond those that its theorems state. -/
import Derived.Test.YtbmooemlekckbaaDoorJ01
set_option linter.unusedVariables false

/- Plain laws: runs and lists of bytes. -/
namespace Go.Proofs.YtbmooemlekckbaaDoor

/-- How many at the head are as the first one, at most 130. -/
def runN : List Int → Nat
  | [] => 0
  | a :: t => min 130 (1 + (t.takeWhile fun y => decide (y = a)).length)
theorem tw_eq (a : Int) (t : List Int) (m : Nat) (hm : m ≤ t.length) (h : ∀ j, j < m → t.getD j 0 = a) (hs : m = t.length ∨ t.getD m 0 ≠ a) : (t.takeWhile fun y => decide (y = a)).length = m := by
  induction t generalizing m with
  | nil => simp at hm; simp [hm]
  | cons c t ih =>
    cases m with
    | zero =>
      rcases hs with h0 | h0
      · simp at h0
      · have : c ≠ a := by simpa using h0
        simp [this]
    | succ m =>
      have hc : c = a := by simpa using h 0 (by omega)
      have := ih m (by simpa using hm) (fun j hj => by simpa using h (j + 1) (by omega)) (by simpa using hs)
      simp [hc, this]
theorem tw_get (a : Int) (t : List Int) (j : Nat) (h : j < (t.takeWhile fun y => decide (y = a)).length) : t.getD j 0 = a := by
  induction t generalizing j with
  | nil => simp at h
  | cons c t ih =>
    by_cases hc : c = a
    · simp only [List.takeWhile_cons, hc, decide_true, if_true, List.length_cons] at h
      cases j with
      | zero => simpa using hc
      | succ j => simpa using ih j (by omega)
    · simp [hc] at h
theorem tw_le (a : Int) (t : List Int) : (t.takeWhile fun y => decide (y = a)).length ≤ t.length := (List.takeWhile_sublist _).length_le
theorem runN_pos {b : List Int} (h : 0 < b.length) : 1 ≤ runN b := by
  cases b with
  | nil => simp at h
  | cons a t => simp only [runN]; omega
theorem runN_le (b : List Int) : runN b ≤ b.length := by
  cases b with
  | nil => simp [runN]
  | cons a t => have := tw_le a t; simp only [runN, List.length_cons]; omega
theorem runN_130 (b : List Int) : runN b ≤ 130 := by
  cases b with
  | nil => simp [runN]
  | cons a t => simp only [runN]; omega
theorem runN_same (b : List Int) (j : Nat) (h : j < runN b) : b.getD j 0 = b.getD 0 0 := by
  cases b with
  | nil => simp [runN] at h
  | cons a t =>
    simp only [runN] at h
    cases j with
    | zero => rfl
    | succ j => simpa using tw_get a t j (by omega)
theorem runN_eq (b : List Int) (n : Nat) (h1 : 1 ≤ n) (h2 : n ≤ 130) (h3 : n ≤ b.length) (h : ∀ j, j < n → b.getD j 0 = b.getD 0 0) (hs : n = 130 ∨ n = b.length ∨ b.getD n 0 ≠ b.getD 0 0) : runN b = n := by
  cases b with
  | nil => simp at h3; omega
  | cons a t =>
    obtain ⟨m, rfl⟩ : ∃ m, n = m + 1 := ⟨n - 1, by omega⟩
    have h4 : ∀ j, j < m → t.getD j 0 = a := fun j hj => by simpa using h (j + 1) (by omega)
    by_cases hst : m = t.length ∨ t.getD m 0 ≠ a
    · have := tw_eq a t m (by simpa using h3) h4 hst
      simp only [runN, this]; omega
    · have hm : m + 1 = 130 := by
        rcases hs with h5 | h5 | h5
        · exact h5
        · exact absurd (.inl (by simpa using h5)) hst
        · exact absurd (.inr (by simpa using h5)) hst
      have : m ≤ (t.takeWhile fun y => decide (y = a)).length := by
        rcases Nat.lt_or_ge (t.takeWhile fun y => decide (y = a)).length m with hlt | hge
        · have h6 : (t.takeWhile fun y => decide (y = a)).length = (t.take m).length := by
            rw [← List.take_append_drop m t, List.takeWhile_append_of_pos]
            · exfalso
              have h7 : (t.takeWhile fun y => decide (y = a)).length = (t.take m ++ (t.drop m).takeWhile fun y => decide (y = a)).length := by
                conv => lhs; rw [← List.take_append_drop m t]
                rw [List.takeWhile_append_of_pos]
                intro y hy
                obtain ⟨i, hi, rfl⟩ := List.mem_iff_getElem.1 hy
                have hi2 : i < m := by rw [List.length_take] at hi; omega
                have := h4 i hi2
                have hi3 : i < t.length := by rw [List.length_take] at hi; omega
                simp [List.getD, hi3] at this
                simp [this]
              rw [List.length_append, List.length_take] at h7
              simp at h3
              omega
            · intro y hy
              obtain ⟨i, hi, rfl⟩ := List.mem_iff_getElem.1 hy
              have hi2 : i < m := by rw [List.length_take] at hi; omega
              have := h4 i hi2
              have hi3 : i < t.length := by rw [List.length_take] at hi; omega
              simp [List.getD, hi3] at this
              simp [this]
          rw [List.length_take] at h6
          simp at h3
          omega
        · exact hge
      simp only [runN]; omega

/-- Lists of at most 128 bytes, each behind its length. -/
def chF : Nat → List Int → List Int
  | 0, _ => []
  | f + 1, p => if p.length = 0 then [] else (256 - ((min p.length 128 : Nat) : Int)) :: (p.take 128 ++ chF f (p.drop 128))
theorem chF_same (f : Nat) : ∀ (g : Nat) (p : List Int), p.length ≤ f → p.length ≤ g → chF f p = chF g p := by
  induction f with
  | zero =>
    intro g p h1 _
    cases g with
    | zero => rfl
    | succ g => simp only [chF]; rw [if_pos (by omega)]
  | succ f ih =>
    intro g p h1 h2
    cases g with
    | zero => simp only [chF]; rw [if_pos (by omega)]
    | succ g =>
      simp only [chF]
      split
      · rfl
      · rw [ih g (p.drop 128) (by rw [List.length_drop]; omega) (by rw [List.length_drop]; omega)]
def chunks (p : List Int) : List Int := chF p.length p
theorem chunks_nil : chunks [] = [] := rfl
theorem chunks_eq (p : List Int) (h : 0 < p.length) : chunks p = (256 - ((min p.length 128 : Nat) : Int)) :: (p.take 128 ++ chunks (p.drop 128)) := by
  unfold chunks
  obtain ⟨k, hk⟩ : ∃ k, p.length = k + 1 := ⟨p.length - 1, by omega⟩
  rw [hk]
  simp only [chF]
  rw [if_neg (by omega), chF_same k (p.drop 128).length (p.drop 128) (by rw [List.length_drop]; omega) (Nat.le_refl _), hk]
theorem chunks_u8 (p : List Int) (h : U8 p) : U8 (chunks p) := by
  have : ∀ (f : Nat) (p : List Int), U8 p → U8 (chF f p) := by
    intro f
    induction f with
    | zero => intro p _ x hx; simp [chF] at hx
    | succ f ih =>
      intro p hp x hx
      simp only [chF] at hx
      split at hx
      · cases hx
      · rcases List.mem_cons.1 hx with rfl | hx
        · omega
        · rcases List.mem_append.1 hx with hx | hx
          · exact hp x (List.mem_of_mem_take hx)
          · exact ih _ (fun y hy => hp y (List.mem_of_mem_drop hy)) x hx
  exact this _ p h

/-- Bytes laid down: k are passed over, pend wait. -/
def enc : Nat → List Int → List Int → List Int
  | _, pend, [] => chunks pend
  | k + 1, pend, _ :: t => enc k pend t
  | 0, pend, a :: t => if 3 ≤ runN (a :: t) then chunks pend ++ (((runN (a :: t) : Nat) : Int) - 3) :: a :: enc (runN (a :: t) - 1) [] t else enc 0 (pend ++ [a]) t
theorem enc_nil (pend : List Int) : enc 0 pend [] = chunks pend := by simp [enc]
theorem enc_skip (b : List Int) : ∀ (k : Nat) (pend : List Int), enc k pend b = enc 0 pend (b.drop k) := by
  induction b with
  | nil => intro k pend; simp [enc]
  | cons a t ih =>
    intro k pend
    cases k with
    | zero => rfl
    | succ k => simp only [enc, List.drop_succ_cons]; exact ih k pend
theorem enc_long (b pend : List Int) (h : 3 ≤ runN b) : enc 0 pend b = chunks pend ++ ((runN b : Int) - 3) :: b.getD 0 0 :: enc 0 [] (b.drop (runN b)) := by
  cases b with
  | nil => simp [runN] at h
  | cons a t =>
    simp only [enc]
    rw [if_pos h, enc_skip]
    congr 2
    obtain ⟨k, hk⟩ : ∃ k, runN (a :: t) = k + 1 := ⟨runN (a :: t) - 1, by omega⟩
    rw [hk]
    simp
theorem enc_one (a : Int) (t pend : List Int) (h : runN (a :: t) < 3) : enc 0 pend (a :: t) = enc 0 (pend ++ [a]) t := by
  simp only [enc]; rw [if_neg (by omega)]
theorem runN_two (a : Int) (t : List Int) (h : runN (a :: t) = 2) : ∃ u, t = a :: u ∧ runN (a :: u) = 1 := by
  simp only [runN] at h
  have h1 : (t.takeWhile fun y => decide (y = a)).length = 1 := by omega
  cases t with
  | nil => simp at h1
  | cons c u =>
    by_cases hc : c = a
    · subst hc
      simp only [List.takeWhile_cons, decide_true, if_true, List.length_cons] at h1
      exact ⟨u, rfl, by simp only [runN]; omega⟩
    · simp [hc] at h1
theorem enc_short (b pend : List Int) (h0 : 0 < b.length) (h : runN b < 3) : enc 0 pend b = enc 0 (pend ++ b.take (runN b)) (b.drop (runN b)) := by
  have h1 := runN_pos h0
  cases b with
  | nil => simp at h0
  | cons a t =>
    have h12 : runN (a :: t) = 1 ∨ runN (a :: t) = 2 := by omega
    rcases h12 with e | e
    · rw [enc_one a t pend h, e]; simp
    · obtain ⟨u, rfl, e2⟩ := runN_two a t e
      rw [enc_one a (a :: u) pend h, enc_one a u _ (by omega), e]
      simp

/-- How many bytes stand ahead of the next run. -/
def lit : List Int → Nat
  | [] => 0
  | a :: t => if 3 ≤ runN (a :: t) then 0 else 1 + lit t
theorem lit_le (b : List Int) : lit b ≤ b.length := by
  induction b with
  | nil => simp [lit]
  | cons a t ih => simp only [lit]; split <;> simp <;> omega
theorem lit_drop (b : List Int) (m : Nat) (h : m ≤ lit b) : lit (b.drop m) = lit b - m := by
  induction b generalizing m with
  | nil => simp [lit]
  | cons a t ih =>
    cases m with
    | zero => simp
    | succ m =>
      simp only [List.drop_succ_cons]
      simp only [lit] at h ⊢
      split at h
      · omega
      · rename_i h3
        rw [if_neg h3, ih m (by omega)]; omega
theorem lit_pos (b : List Int) : 0 < lit b ↔ 0 < b.length ∧ runN b < 3 := by
  cases b with
  | nil => simp [lit]
  | cons a t => simp only [lit, List.length_cons]; split <;> omega
theorem lit_lt (b : List Int) (e : Nat) (h : e ≤ lit b) : e < lit b ↔ e < b.length ∧ runN (b.drop e) < 3 := by
  have h1 := lit_pos (b.drop e)
  rw [lit_drop b e h, List.length_drop] at h1
  omega
theorem enc_lit (b : List Int) : ∀ pend, enc 0 pend b = chunks (pend ++ b.take (lit b)) ++ enc 0 [] (b.drop (lit b)) := by
  induction b with
  | nil => intro pend; simp [enc, lit, chunks_nil]
  | cons a t ih =>
    intro pend
    by_cases h : 3 ≤ runN (a :: t)
    · have : lit (a :: t) = 0 := by simp only [lit]; rw [if_pos h]
      rw [this, List.take_zero, List.append_nil, List.drop_zero, enc_long _ pend h, enc_long _ [] h, chunks_nil]; rfl
    · have : lit (a :: t) = lit t + 1 := by simp only [lit]; rw [if_neg h]; omega
      rw [this, enc_one a t pend (by omega), ih (pend ++ [a])]
      simp
theorem enc_list (b : List Int) (h0 : 0 < b.length) (h : runN b < 3) :
    enc 0 [] b = (256 - ((min (lit b) 128 : Nat) : Int)) :: (b.take (min (lit b) 128) ++ enc 0 [] (b.drop (min (lit b) 128))) := by
  have hp := (lit_pos b).2 ⟨h0, h⟩
  have hl := lit_le b
  have ht : (b.take (lit b)).length = lit b := by rw [List.length_take]; omega
  have hd := lit_drop b (min (lit b) 128) (by omega)
  rw [enc_lit b [], enc_lit (b.drop (min (lit b) 128)) [], List.nil_append, List.nil_append, chunks_eq _ (by omega), ht, hd, List.drop_drop]
  rw [show min (lit b) 128 + (lit b - min (lit b) 128) = lit b from by omega, List.take_take, Nat.min_comm 128]
  rw [List.cons_append, List.append_assoc]
  congr 3
  rw [List.drop_take]
  rcases Nat.le_total (lit b) 128 with h1 | h1
  · rw [show lit b - 128 = 0 from by omega, show lit b - min (lit b) 128 = 0 from by omega]; simp
  · rw [Nat.min_eq_right h1]
theorem enc_u8 (b : List Int) : ∀ (k : Nat) (pend : List Int), U8 b → U8 pend → U8 (enc k pend b) := by
  induction b with
  | nil => intro k pend _ hp; simp only [enc]; exact chunks_u8 _ hp
  | cons a t ih =>
    intro k pend hb hp
    have ha := hb a List.mem_cons_self
    have ht : U8 t := fun x hx => hb x (List.mem_cons_of_mem _ hx)
    cases k with
    | succ k => simp only [enc]; exact ih k pend ht hp
    | zero =>
      simp only [enc]
      split
      · intro x hx
        rcases List.mem_append.1 hx with hx | hx
        · exact chunks_u8 _ hp x hx
        · rcases List.mem_cons.1 hx with rfl | hx
          · have := runN_130 (a :: t); omega
          · rcases List.mem_cons.1 hx with rfl | hx
            · exact ha
            · exact ih _ _ ht (fun y hy => by cases hy) x hx
      · refine ih _ _ ht ?_
        intro x hx
        rcases List.mem_append.1 hx with hx | hx
        · exact hp x hx
        · rw [List.mem_singleton.1 hx]; exact ha

/-- Bytes taken back. -/
def decF : Nat → Nat → List Int → List Int → List Int × List Int × Int
  | 0, _, _, _ => ([], [], 2)
  | f + 1, many, out, b =>
    if many ≤ out.length then (if many < out.length then ([], [], 2) else (out, b, 0))
    else if b.length < 2 then ([], [], 2)
    else if b.getD 0 0 < 128 then decF f many (out ++ List.replicate ((b.getD 0 0).toNat + 3) (b.getD 1 0)) (b.drop 2)
    else if b.length ≤ 256 - (b.getD 0 0).toNat then ([], [], 2)
    else decF f many (out ++ (b.drop 1).take (256 - (b.getD 0 0).toNat)) (b.drop (257 - (b.getD 0 0).toNat))
theorem decF_over (f many : Nat) (out b : List Int) (h : many < out.length) : decF f many out b = ([], [], 2) := by
  cases f with
  | zero => rfl
  | succ f => simp only [decF]; rw [if_pos (by omega), if_pos h]
theorem decF_done (f many : Nat) (out b : List Int) (h : many = out.length) (hf : many < f + out.length) : decF f many out b = (out, b, 0) := by
  cases f with
  | zero => omega
  | succ f => simp only [decF]; rw [if_pos (by omega), if_neg (by omega)]
theorem dec_chunks (n : Nat) : ∀ (p out r : List Int) (f many : Nat), p.length ≤ n → many < f + out.length → out.length + p.length ≤ many →
    ∃ g, many < g + (out.length + p.length) ∧ decF f many out (chunks p ++ r) = decF g many (out ++ p) r := by
  induction n with
  | zero =>
    intro p out r f many hn hf hm
    obtain rfl : p = [] := List.eq_nil_of_length_eq_zero (by omega)
    exact ⟨f, by simpa using hf, by simp [chunks_nil]⟩
  | succ n ih =>
    intro p out r f many hn hf hm
    rcases Nat.eq_zero_or_pos p.length with h0 | h0
    · obtain rfl : p = [] := List.eq_nil_of_length_eq_zero h0
      exact ⟨f, by simpa using hf, by simp [chunks_nil]⟩
    · obtain ⟨g, rfl⟩ : ∃ g, f = g + 1 := ⟨f - 1, by omega⟩
      have hl : (p.take 128).length = min p.length 128 := by rw [List.length_take]; omega
      obtain ⟨m, hmm⟩ : ∃ m, m = min p.length 128 := ⟨_, rfl⟩
      have hm1 : 1 ≤ m ∧ m ≤ 128 := by omega
      obtain ⟨g2, h1, h2⟩ := ih (p.drop 128) (out ++ p.take 128) r g many (by rw [List.length_drop]; omega) (by rw [List.length_append, hl]; omega) (by rw [List.length_append, hl, List.length_drop]; omega)
      refine ⟨g2, by rw [List.length_append, hl, List.length_drop] at h1; omega, ?_⟩
      have e1 : ((256 : Int) - (m : Int)).toNat = 256 - m := by omega
      rw [chunks_eq p h0, ← hmm]
      simp only [decF]
      rw [if_neg (by omega), if_neg (by simp [hl]; omega), if_neg (by simp; omega), if_neg (by simp [e1, hl]; omega)]
      have e2 : ((256 - (m : Int)) :: (p.take 128 ++ chunks (p.drop 128)) ++ r) = (256 - (m : Int)) :: (p.take 128 ++ (chunks (p.drop 128) ++ r)) := by simp
      rw [e2]
      simp only [List.getD_cons_zero, e1, List.drop_succ_cons, List.drop_zero]
      rw [show 256 - (256 - m) = m from by omega, show 257 - (256 - m) = m + 1 from by omega, List.drop_succ_cons]
      have e3 : m = (p.take 128).length := by rw [hl, hmm]
      rw [List.take_append_of_le_length (by omega), List.take_of_length_le (by omega)]
      have e4 : (p.take 128 ++ (chunks (p.drop 128) ++ r)).drop m = chunks (p.drop 128) ++ r := by rw [e3]; exact List.drop_left
      rw [e4, h2, List.append_assoc, List.take_append_drop]
theorem take_run (b : List Int) : b.take (runN b) = List.replicate (runN b) (b.getD 0 0) := by
  apply List.ext_getElem?
  intro i
  rcases Nat.lt_or_ge i (runN b) with h | h
  · have h1 := runN_le b
    have h2 := runN_same b i h
    rw [List.getElem?_take_of_lt h, List.getElem?_replicate, if_pos h, ← h2]
    simp [List.getD, List.getElem?_eq_getElem (show i < b.length by omega)]
  · rw [List.getElem?_eq_none (by rw [List.length_take]; omega), List.getElem?_replicate, if_neg (by omega)]
/-- What was laid down is taken. -/
theorem dec_enc (n : Nat) : ∀ (b pend out r : List Int) (f many : Nat), b.length ≤ n → many < f + out.length → out.length + pend.length + b.length ≤ many →
    ∃ g, many < g + (out.length + pend.length + b.length) ∧ decF f many out (enc 0 pend b ++ r) = decF g many (out ++ pend ++ b) r := by
  induction n with
  | zero =>
    intro b pend out r f many hn hf hm
    obtain rfl : b = [] := List.eq_nil_of_length_eq_zero (by omega)
    obtain ⟨g, h1, h2⟩ := dec_chunks pend.length pend out r f many (Nat.le_refl _) hf (by simpa using hm)
    exact ⟨g, by simpa using h1, by rw [enc_nil, h2, List.append_nil]⟩
  | succ n ih =>
    intro b pend out r f many hn hf hm
    rcases Nat.eq_zero_or_pos b.length with h0 | h0
    · obtain rfl : b = [] := List.eq_nil_of_length_eq_zero h0
      obtain ⟨g, h1, h2⟩ := dec_chunks pend.length pend out r f many (Nat.le_refl _) hf (by simpa using hm)
      exact ⟨g, by simpa using h1, by rw [enc_nil, h2, List.append_nil]⟩
    · have hr1 := runN_pos h0
      have hrl := runN_le b
      have hr130 := runN_130 b
      have hlt : (b.take (runN b)).length = runN b := by rw [List.length_take]; omega
      have hld : (b.drop (runN b)).length = b.length - runN b := List.length_drop
      rcases Nat.lt_or_ge (runN b) 3 with h3 | h3
      · obtain ⟨g, h1, h2⟩ := ih (b.drop (runN b)) (pend ++ b.take (runN b)) out r f many (by omega) hf (by rw [List.length_append]; omega)
        refine ⟨g, by rw [List.length_append] at h1; omega, ?_⟩
        rw [enc_short b pend h0 h3, h2]
        congr 1
        rw [List.append_assoc, List.append_assoc, List.append_assoc, List.take_append_drop]
      · obtain ⟨g, h1, h2⟩ := dec_chunks pend.length pend out (((runN b : Int) - 3) :: b.getD 0 0 :: (enc 0 [] (b.drop (runN b)) ++ r)) f many (Nat.le_refl _) hf (by omega)
        obtain ⟨g', rfl⟩ : ∃ g', g = g' + 1 := ⟨g - 1, by omega⟩
        obtain ⟨g2, h4, h5⟩ := ih (b.drop (runN b)) [] (out ++ pend ++ b.take (runN b)) r g' many (by omega) (by simp only [List.length_append, hlt]; omega) (by simp only [List.length_append, hlt, hld, List.length_nil]; omega)
        refine ⟨g2, by simp only [List.length_append, hlt, hld, List.length_nil] at h4; omega, ?_⟩
        have e1 : (((runN b : Int) - 3).toNat + 3) = runN b := by omega
        rw [enc_long b pend h3, List.append_assoc, List.cons_append, List.cons_append, h2]
        simp only [decF]
        rw [if_neg (by simp only [List.length_append]; omega), if_neg (by simp), if_pos (by simp; omega)]
        simp only [List.getD_cons_zero, List.getD_cons_succ, e1, List.drop_succ_cons, List.drop_zero]
        rw [← take_run, h5]
        congr 1
        rw [List.append_nil, List.append_assoc (out ++ pend), List.take_append_drop]
def encR (b : List Int) : List Int × Int := if 4096 < b.length then ([], 3) else (enc 0 [] b, 0)
def decR (b : List Int) (many : Int) : List Int × List Int × Int := if many < 0 ∨ 4096 < many then ([], [], 1) else decF (many.toNat + 1) many.toNat [] b
theorem dec_back (b r : List Int) (h : b.length ≤ 4096) : decR (enc 0 [] b ++ r) b.length = (b, r, 0) := by
  unfold decR
  rw [if_neg (by omega), Int.toNat_natCast]
  obtain ⟨g, h1, h2⟩ := dec_enc b.length b [] [] r (b.length + 1) b.length (Nat.le_refl _) (by simp) (by simp)
  rw [h2]
  simp only [List.nil_append, List.length_nil, Nat.zero_add] at h1 ⊢
  exact decF_done g b.length b r rfl h1
theorem dec_more (b : List Int) (h : b.length ≤ 4096) : decR (enc 0 [] b) ((b.length : Int) + 1) = ([], [], if b.length = 4096 then 1 else 2) := by
  unfold decR
  by_cases h2 : b.length = 4096
  · rw [if_pos (by omega), if_pos h2]
  · rw [if_neg (by omega), if_neg h2, show ((b.length : Int) + 1).toNat = b.length + 1 from by omega]
    obtain ⟨g, h1, h3⟩ := dec_enc b.length b [] [] [] (b.length + 1 + 1) (b.length + 1) (Nat.le_refl _) (by simp) (by simp)
    rw [List.append_nil] at h3
    rw [h3]
    simp only [List.nil_append, List.length_nil, Nat.zero_add] at h1 ⊢
    cases g with
    | zero => rfl
    | succ g => simp only [decF]; rw [if_neg (by omega), if_pos (by simp)]
end Go.Proofs.YtbmooemlekckbaaDoor

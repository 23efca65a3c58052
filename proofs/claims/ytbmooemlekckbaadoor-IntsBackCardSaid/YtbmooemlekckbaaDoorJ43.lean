/- Joined texts: IntV, PlainIn, PlainIb. Each has its own head line. No condition beyond those that its theorems state. -/
import Derived.Laws.StructEq
import Derived.Laws.BitsLemmas
import Derived.Test.YtbmooemlekckbaaDoorJ31
import Derived.Test.YtbmooemlekckbaaDoorJ42
import Derived.Test.YtbmooemlekckbaaDoorJ32
set_option linter.unusedVariables false

/- Ints: which kinds are of numbers, which values may be of one; a number's parts. -/
namespace Go.Proofs.YtbmooemlekckbaaDoor
open Go.RowKit

def isNum (k : Int) : Bool := decide (1 ≤ k ∧ k ≤ 5)
/-- A value that is something, and may be of a kind of numbers. -/
def okI (k : Int) (v : Val) : Bool := !v.null && (v.s.toList.isEmpty && (decide (k ≠ 1) || (decide (v.n = 0) || decide (v.n = 1))))
def numV (n : Int) : Val := ⟨false, n, ⟨#[]⟩⟩
theorem num_cases {k : Int} (h : isNum k = true) : k = 1 ∨ k = 2 ∨ k = 3 ∨ k = 4 ∨ k = 5 := by
  have := of_decide_eq_true h
  omega
set_option maxHeartbeats 400000 in
theorem Number_any (w : World) (k : Int) :
    Calls Tryd.prog 8 #[.int .i64 k] w fun e w' => e = .returned (.bool (isNum k)) ∧ w = w' := by
  cases hk : isNum k
  · have h := of_decide_eq_false hk
    have h1 : (k == 1) = false := by simp; omega
    have h2 : (k == 2) = false := by simp; omega
    have h3 : (k == 3) = false := by simp; omega
    have h4 : (k == 4) = false := by simp; omega
    have h5 : (k == 5) = false := by simp; omega
    clear h hk
    go_enter Tryd.func8, Tryd.ntmps8
    go_wp2_with fail
    go_ret
    exact ⟨rfl, rfl⟩
  · rcases num_cases hk with rfl | rfl | rfl | rfl | rfl
    all_goals
      clear hk
      go_enter Tryd.func8, Tryd.ntmps8
      go_wp2_with fail
      go_ret
      exact ⟨rfl, rfl⟩
theorem and_not_one (b : BitVec 64) : (b &&& ~~~(1#64)).toNat = b.toNat - b.toNat % 2 := by
  have h : b &&& ~~~(1#64) = (b >>> 1) <<< 1 := by
    apply BitVec.eq_of_getLsbD_eq
    intro i hi
    simp only [BitVec.getLsbD_and, BitVec.getLsbD_not, BitVec.getLsbD_shiftLeft, BitVec.getLsbD_ushiftRight]
    rcases Nat.eq_zero_or_pos i with rfl | h0
    · simp
    · have h1 : (1#64).getLsbD i = false := by
        rw [BitVec.getLsbD_one]
        simp; omega
      rw [h1]
      have h2 : ¬ i < 1 := by omega
      simp [hi, h2, show 1 + (i - 1) = i from by omega]
  rw [h, BitVec.toNat_shiftLeft, BitVec.toNat_ushiftRight, Nat.shiftRight_eq_div_pow, Nat.shiftLeft_eq]
  have := b.isLt
  rw [Nat.mod_eq_of_lt (by omega)]
  omega
theorem andNot_one (n : Int) (h : -9223372036854775808 ≤ n ∧ n < 9223372036854775808) : (bits BinOp.andNot IntKind.i64 n 1 == 0) = (decide (n = 0) || decide (n = 1)) := by
  have e : bits BinOp.andNot IntKind.i64 n 1 = IntKind.i64.wrap (((BitVec.ofInt 64 n) &&& ~~~(1#64)).toNat : Int) := rfl
  rw [e, and_not_one, BitVec.toNat_ofInt]
  have hm : ((n % (2 ^ 64 : Nat)).toNat : Int) = n % 18446744073709551616 := by omega
  generalize (n % (2 ^ 64 : Nat)).toNat = m at *
  have hw : IntKind.i64.wrap ((m - m % 2 : Nat) : Int) = 0 ↔ (m - m % 2 : Nat) = 0 := by
    have h3 : IntKind.i64.wrap ((m - m % 2 : Nat) : Int) = (((m - m % 2 : Nat) : Int) + 9223372036854775808) % 18446744073709551616 - 9223372036854775808 := by rw [IntKind.wrap_i64]
    rw [h3]; omega
  rw [Bool.eq_iff_iff]
  simp only [beq_iff_eq, Bool.or_eq_true, decide_eq_true_eq]
  rw [hw]
  omega

set_option maxRecDepth 100000 in
set_option maxHeartbeats 1000000 in
theorem May_any (w : World) (k : Int) (hk : isNum k = true) (v : Val) (hn : -9223372036854775808 ≤ v.n ∧ v.n < 9223372036854775808) (hv : v.null = false) :
    Calls Tryd.prog 9 #[.int .i64 k, .agg #[.bool false, .int .i64 v.n, .string v.s]] w fun e w' => e = .returned (.bool (okI k v)) ∧ Below w.heap.size w w' := by
  have hok : okI k v = (v.s.toList.isEmpty && (decide (k ≠ 1) || (decide (v.n = 0) || decide (v.n = 1)))) := by unfold okI; rw [hv]; rfl
  have hb := andNot_one v.n hn
  rw [← hb] at hok
  have HOK := Lib.hid hok
  clear hok hb hv hn
  have hk2 := hk
  rcases num_cases hk with rfl | rfl | rfl | rfl | rfl
  all_goals
    cases hs : v.s.toList.isEmpty
    all_goals
      go_enter Tryd.func9, Tryd.ntmps9
      go_wp2_with fail
      refine (Number_any _ _).mono ?_; rintro e w' ⟨rfl, rfl⟩
      rw [hk2]
      go_wp2_with fail
      all_goals
        go_ret
        refine ⟨?_, (Below.refl w.heap.size w).alloc (Nat.le_refl _) _⟩
        rw [HOK.out, hs]
        first
          | rfl
          | (simp; done)
end Go.Proofs.YtbmooemlekckbaaDoor

/- Ints: plain: columns of numbers. -/
namespace Go.Proofs.YtbmooemlekckbaaDoor
open Go.RowKit

def putIn (k : Int) (l : List Val) : List Int × Int :=
  if isNum k = false then ([], 1)
  else if 4096 < l.length then ([], 3)
  else if l.all (okI k) = false then ([], 21)
  else if k = 1 then putB (l.map fun v => decide (v.n = 1))
  else if k = 5 then ((putGl (l.map fun v => v.n / 1000) true).1 ++ (putGl (l.map fun v => v.n % 1000) false).1, 0)
  else putGl (l.map fun v => v.n) true
def mayT (q r : Int) : Bool := decide (r ≤ 999) && (decide (-9223372036854775808 ≤ 1000 * q + r) && decide (1000 * q + r ≤ 9223372036854775807))
/-- Truths taken; numbers taken. -/
def truthsR (b : List Int) (many : Int) : List Val × List Int × Int :=
  ((takeB b many).1.map fun x => numV (if x then 1 else 0), (takeB b many).2.1, (takeB b many).2.2)
def plainR (b : List Int) (many : Int) (t : Bool) : List Val × List Int × Int :=
  if (takeGl b many true).2.2 ≠ 0 then ([], [], (takeGl b many true).2.2)
  else if t = true then
    if (takeGl (takeGl b many true).2.1 many false).2.2 ≠ 0 then ([], [], (takeGl (takeGl b many true).2.1 many false).2.2)
    else if (((takeGl b many true).1.zip (takeGl (takeGl b many true).2.1 many false).1).all fun q => mayT q.1 q.2) = true then
      (((takeGl b many true).1.zip (takeGl (takeGl b many true).2.1 many false).1).map fun q => numV (1000 * q.1 + q.2), (takeGl (takeGl b many true).2.1 many false).2.1, 0)
    else ([], [], 2)
  else ((takeGl b many true).1.map numV, (takeGl b many true).2.1, 0)
def finI (q : List Val × List Int × Int) : List Val × Int := if q.2.2 ≠ 0 ∨ 0 < q.2.1.length then ([], 2) else (q.1, 0)
def takeIn (k : Int) (b : List Int) (many : Int) : List Val × Int :=
  if isNum k = false ∨ many < 0 ∨ 4096 < many then ([], 1)
  else if k = 1 then finI (truthsR b many) else finI (plainR b many (decide (k = 5)))
theorem whole_i64 (l : List Val) (h : ∀ v ∈ l, -9223372036854775808 ≤ v.n ∧ v.n < 9223372036854775808) : I64 (l.map fun v => v.n / 1000) ∧ I64 (l.map fun v => v.n % 1000) ∧ I64 (l.map fun v => v.n) ∧ (l.map fun v => v.n % 1000).all (keepB false) = true := by
  refine ⟨fun y hy => ?_, fun y hy => ?_, fun y hy => ?_, List.all_eq_true.2 fun y hy => ?_⟩
  all_goals
    obtain ⟨v, hv, rfl⟩ := List.mem_map.1 hy
    have := h v hv
  · omega
  · omega
  · exact this
  · unfold keepB; simp; omega
theorem keep_true (l : List Int) : l.all (keepB true) = true := List.all_eq_true.2 fun y _ => by simp [keepB]
theorem gl_ok (l : List Int) (s : Bool) (hu : I64 l) (hk : l.all (keepB s) = true) (h : l.length ≤ 4096) : ∃ p, putGl l s = (p, 0) ∧ U8 p ∧ p.length ≤ 50000 := by
  obtain ⟨p, h1, h2, h3, _⟩ := gl_back l s hu hk h
  exact ⟨p, h1, h2, h3⟩
theorem zip_snoc (l m : List Int) (i : Nat) (h1 : i < l.length) (h2 : i < m.length) : (l.zip m).take (i + 1) = (l.zip m).take i ++ [(l.getD i 0, m.getD i 0)] := by
  rw [List.take_succ_eq_append_getElem (by rw [List.length_zip]; omega)]
  simp [List.getD, List.getElem?_eq_getElem h1, List.getElem?_eq_getElem h2]
end Go.Proofs.YtbmooemlekckbaaDoor

/- Ints: plain law: numbers that were laid down are taken as they were; one number more is not there. -/
namespace Go.Proofs.YtbmooemlekckbaaDoor
open Go.RowKit

theorem ok_numB (k n : Int) : okI k (numV n) = (decide (k ≠ 1) || (decide (n = 0) || decide (n = 1))) := by
  have e : (⟨#[]⟩ : ByteArray).toList = [] := by rw [ByteArray.toList_eq]
  unfold okI numV
  rw [e]; rfl
theorem all_numB (k : Int) (L : List Int) (h : k = 1 → ∀ n ∈ L, n = 0 ∨ n = 1) : (L.map numV).all (okI k) = true := by
  rw [List.all_eq_true]
  intro v hv
  obtain ⟨n, hn, rfl⟩ := List.mem_map.1 hv
  rw [ok_numB]
  by_cases hk : k = 1
  · rcases h hk n hn with rfl | rfl <;> simp
  · simp [hk]
theorem pass_glB (s : Bool) (l : List Int) (hu : I64 l) (hk : l.all (keepB s) = true) (h : l.length ≤ 4096) : ∃ p, putGl l s = (p, 0) ∧ U8 p ∧ p.length ≤ 50000 ∧ (∀ r, takeGl (p ++ r) l.length s = (l, r, 0)) ∧
    (∀ (many g : Nat) (r : List Int), l.length ≤ many → p.length + r.length < g → ∃ g', r.length < g' ∧ takeF s many g [] (p ++ r) = takeF s many g' l r) ∧
    (s = false → ∀ (many g : Nat) (outT : List Int), l.length < many → p.length < g → (takeF true many g outT p).2.2 ≠ 0 ∨ ∃ (_ : Nat) (p' : List Int), (takeF true many g outT p).2.1 = p' ∧ ∀ g2, p'.length < g2 → (takeF false many g2 [] p').2.2 ≠ 0) := by
  obtain ⟨p, h1, h2, h3, h4⟩ := gl_back l s hu hk h
  obtain ⟨p', k1, _, _, k4, k5⟩ := putF_pass s l.length l (Nat.le_refl _) hu hk (l.length + 1) [] (Nat.lt_succ_self _)
  have he : p' = p := by
    unfold putGl at h1
    rw [if_neg (by omega), k1, List.nil_append] at h1
    exact (Prod.mk.inj h1).1
  subst he
  refine ⟨p', h1, h2, h3, h4, fun many g r hm hg => ?_, k5⟩
  have := k4 many g [] r (by simpa using hm) hg
  simpa using this
theorem none_more (s : Bool) (many g : Nat) (l : List Int) (h : l.length < many) : (takeF s many g l []).2.2 ≠ 0 := by
  cases g with
  | zero => simp [takeF]
  | succ g =>
    rw [takeF, if_neg (by omega), one_nil, if_pos (.inl (by simp))]
    simp
theorem fin_of {q : List Val × List Int × Int} (h : q.2.2 ≠ 0) : finI q = ([], 2) := by unfold finI; rw [if_pos (.inl h)]
theorem plain_er1 {b : List Int} {m : Int} {t : Bool} (h : (takeGl b m true).2.2 ≠ 0) : (plainR b m t).2.2 ≠ 0 := by
  unfold plainR; rw [if_pos h]; exact h
theorem plain_er2 {b : List Int} {m : Int} (h : (takeGl (takeGl b m true).2.1 m false).2.2 ≠ 0) : (plainR b m true).2.2 ≠ 0 := by
  by_cases a : (takeGl b m true).2.2 ≠ 0
  · exact plain_er1 a
  · have e : plainR b m true = ([], [], (takeGl (takeGl b m true).2.1 m false).2.2) := by
      unfold plainR; rw [if_neg a]; simp only [if_true]; rw [if_pos h]
    rw [e]; exact h
/-- What is laid down, and what is taken of it. -/
theorem ints_back (k : Int) (hk : isNum k = true) (L : List Int) (hu : I64 L) (h4 : L.length ≤ 4096) (h01 : k = 1 → ∀ n ∈ L, n = 0 ∨ n = 1) :
    ∃ p, putIn k (L.map numV) = (p, 0) ∧ U8 p ∧ p.length ≤ 100000 ∧ takeIn k p L.length = (L.map numV, 0) ∧ (k ≠ 1 → L.length < 4096 → (takeIn k p ((L.length : Int) + 1)).2 = 2) := by
  have hlen : (L.map numV).length = L.length := List.length_map _
  have hput : putIn k (L.map numV) = if k = 1 then putB ((L.map numV).map fun v => decide (v.n = 1)) else if k = 5 then ((putGl ((L.map numV).map fun v => v.n / 1000) true).1 ++ (putGl ((L.map numV).map fun v => v.n % 1000) false).1, 0) else putGl ((L.map numV).map fun v => v.n) true := by
    unfold putIn
    rw [hk, if_neg (by simp), if_neg (by omega), all_numB k L h01, if_neg (by simp)]
  have htake : ∀ (p : List Int) (m : Nat), m ≤ 4096 → takeIn k p (m : Int) = if k = 1 then finI (truthsR p m) else finI (plainR p m (decide (k = 5))) := by
    intro p m hm
    unfold takeIn
    rw [if_neg (by rw [hk]; rintro (h | h | h); cases h; omega; omega)]
  have hn : (L.map numV).map (fun v => v.n) = L := by rw [List.map_map]; exact List.map_id L
  have hq : (L.map numV).map (fun v => v.n / 1000) = L.map (fun n => n / 1000) := by rw [List.map_map]; rfl
  have hr : (L.map numV).map (fun v => v.n % 1000) = L.map (fun n => n % 1000) := by rw [List.map_map]; rfl
  have hb : (L.map numV).map (fun v => decide (v.n = 1)) = L.map (fun n => decide (n = 1)) := by rw [List.map_map]; rfl
  by_cases h1 : k = 1
  · have hp := put_takes (L.map fun n => decide (n = 1)) (by rw [List.length_map]; exact h4)
    have ht := take_back (L.map fun n => decide (n = 1)) [] (by rw [List.length_map]; exact h4)
    rw [List.append_nil, List.length_map] at ht
    refine ⟨_, by rw [hput, if_pos h1, hb, hp], enc_u8 _ _ _ (bytesB_u8 _) (fun y hy => (by cases hy)), ?_, ?_, fun h => absurd h1 h⟩
    · have := put_lenN (L.map fun n => decide (n = 1)) (by rw [List.length_map]; exact h4); omega
    · rw [htake _ _ h4, if_pos h1]
      unfold truthsR finI
      rw [ht, if_neg (by simp), List.map_map]
      congr 1
      refine List.map_congr_left fun n hn => ?_
      rcases h01 h1 n hn with rfl | rfl <;> rfl
  · by_cases h5 : k = 5
    · have hi1 : I64 (L.map fun n => n / 1000) := fun y hy => by obtain ⟨n, hn, rfl⟩ := List.mem_map.1 hy; have := hu n hn; omega
      have hi2 : I64 (L.map fun n => n % 1000) := fun y hy => by obtain ⟨n, hn, rfl⟩ := List.mem_map.1 hy; have := hu n hn; omega
      have hk2 : (L.map fun n => n % 1000).all (keepB false) = true := List.all_eq_true.2 fun y hy => by obtain ⟨n, hn, rfl⟩ := List.mem_map.1 hy; unfold keepB; simp; omega
      obtain ⟨p1, a1, a2, a3, a4, a5, _⟩ := pass_glB true (L.map fun n => n / 1000) hi1 (keep_true _) (by rw [List.length_map]; exact h4)
      obtain ⟨p2, b1, b2, b3, b4, b5, b6⟩ := pass_glB false (L.map fun n => n % 1000) hi2 hk2 (by rw [List.length_map]; exact h4)
      rw [List.length_map] at a4 a5 b4 b6
      have hb4 := b4 []
      rw [List.append_nil] at hb4
      refine ⟨p1 ++ p2, by rw [hput, if_neg h1, if_pos h5, hq, hr, a1, b1], ?_, by rw [List.length_append]; omega, ?_, fun _ hlt => ?_⟩
      · intro y hy
        rcases List.mem_append.1 hy with h | h
        · exact a2 y h
        · exact b2 y h
      · rw [htake _ _ h4, if_neg h1, decide_eq_true h5]
        have hz : (L.map fun n => n / 1000).zip (L.map fun n => n % 1000) = L.map fun n => (n / 1000, n % 1000) := by
          rw [List.zip_map']
        have hall : (((L.map fun n => n / 1000).zip (L.map fun n => n % 1000)).all fun q => mayT q.1 q.2) = true := by
          rw [hz, List.all_eq_true]
          intro q hq
          obtain ⟨n, hn, rfl⟩ := List.mem_map.1 hq
          have := hu n hn
          unfold mayT
          simp
          omega
        have hmap : (((L.map fun n => n / 1000).zip (L.map fun n => n % 1000)).map fun q => numV (1000 * q.1 + q.2)) = L.map numV := by
          rw [hz, List.map_map]
          refine List.map_congr_left fun n hn => ?_
          show numV (1000 * (n / 1000) + n % 1000) = numV n
          rw [show 1000 * (n / 1000) + n % 1000 = n from by omega]
        unfold plainR
        rw [a4 p2]
        dsimp only
        rw [hb4]
        dsimp only
        generalize (L.map fun n => n / 1000).zip (L.map fun n => n % 1000) = ZZ at *
        simp [finI, hall, hmap]
      · have hm1 : ((L.length : Int) + 1) = ((L.length + 1 : Nat) : Int) := by omega
        rw [hm1, htake _ _ hlt, if_neg h1, decide_eq_true h5]
        have hgl : ∀ (b : List Int) (s : Bool), takeGl b ((L.length + 1 : Nat) : Int) s = takeF s (L.length + 1) (b.length + 1) [] b := by
          intro b s
          unfold takeGl
          rw [if_neg (by omega), Int.toNat_natCast]
        rw [fin_of]
        obtain ⟨g', hg1, hg2⟩ := a5 (L.length + 1) ((p1 ++ p2).length + 1) p2 (by omega) (by rw [List.length_append]; omega)
        rcases b6 rfl (L.length + 1) g' (L.map fun n => n / 1000) (by omega) hg1 with h | ⟨_, p', h6, h7⟩
        · refine plain_er1 ?_
          rw [hgl, hg2]; exact h
        · refine plain_er2 ?_
          rw [hgl (p1 ++ p2), hg2, h6, hgl]
          exact h7 _ (Nat.lt_succ_self _)
    · obtain ⟨p1, a1, a2, a3, a4, a5, _⟩ := pass_glB true L hu (keep_true _) h4
      have ha4 := a4 []
      rw [List.append_nil] at ha4
      refine ⟨p1, by rw [hput, if_neg h1, if_neg h5, hn, a1], a2, by omega, ?_, fun _ hlt => ?_⟩
      · rw [htake _ _ h4, if_neg h1, decide_eq_false h5]
        unfold plainR
        rw [ha4]
        simp [finI]
      · have hm1 : ((L.length : Int) + 1) = ((L.length + 1 : Nat) : Int) := by omega
        rw [hm1, htake _ _ hlt, if_neg h1, decide_eq_false h5, fin_of]
        refine plain_er1 ?_
        unfold takeGl
        rw [if_neg (by omega), Int.toNat_natCast]
        obtain ⟨g', hg1, hg2⟩ := a5 (L.length + 1) (p1.length + 1) [] (by omega) (by simp)
        rw [List.append_nil] at hg2
        rw [hg2]
        exact none_more true _ _ _ (by omega)
end Go.Proofs.YtbmooemlekckbaaDoor

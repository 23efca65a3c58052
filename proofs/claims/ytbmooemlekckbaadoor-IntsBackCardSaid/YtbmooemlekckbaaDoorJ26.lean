/- Joined texts: PlainDe, RepB, ByT, ByRT, ByRP. Each has its own head line. No condition beyond those that its theorems state. -/
import Derived.Lib.MakeNoZero
import Derived.Laws.CopyOwn
import Derived.Deep.RegionLaw
import Derived.Test.YtbmooemlekckbaaDoorJ14
import Derived.Test.YtbmooemlekckbaaDoorJ23
import Derived.Test.YtbmooemlekckbaaDoorJ20
import Derived.Test.YtbmooemlekckbaaDoorJ07
import Derived.Test.YtbmooemlekckbaaDoorJ06
import Derived.Test.YtbmooemlekckbaaDoorJ02
import Derived.Test.YtbmooemlekckbaaDoorJ25
set_option linter.unusedVariables false

/- Plain law: numbers laid down by how much they rise or fall are taken as they were. -/
namespace Go.Proofs.YtbmooemlekckbaaDoor
open Go.RowKit

theorem stepR_back (a d : Int) (fl : Bool) (ha : I64x a) (hb : I64x (a + d)) (hd : absI d < 9223372036854775808) (hf : d = 0 ∨ decide (d < 0) = fl) : stepR a (absI d) fl = (a + d, true) := by
  unfold stepR
  unfold I64x at ha hb
  rw [if_neg (by omega)]
  unfold absI at hd ⊢
  rcases hf with rfl | hf
  · cases fl
    · rw [if_neg (by simp), if_neg (by simp; omega)]; simp
    · rw [if_pos rfl, if_neg (by simp; omega)]; simp
  · by_cases h : d < 0
    · rw [decide_eq_true h] at hf
      subst hf
      rw [if_pos rfl, if_pos h, if_neg (by omega), show a - -d = a + d from by omega]
    · rw [decide_eq_false h] at hf
      subst hf
      rw [if_neg (by simp), if_neg h, if_neg (by omega)]
theorem steps_back (l : List Int) (hu : I64 l) (m : Nat) (hm : m + 1 = l.length) (hok : okD l m = true) : ∀ k j : Nat, j + k = m → stepsDe (decide (dAt l 0 < 0)) true (l.getD j 0) ((dsz l m).drop j) = some (l.drop (j + 1)) := by
  intro k
  induction k with
  | zero =>
    intro j hj
    rw [List.drop_eq_nil_of_le (by rw [dsz_len]; omega), List.drop_eq_nil_of_le (by omega), stepsDe_nil]
  | succ k ih =>
    intro j hj
    have hd : (dsz l m).getD j 0 = absI (dAt l j) := by
      simp [dsz, List.getD, List.getElem?_map, List.getElem?_range (show j < m by omega)]
    have hoj := List.all_eq_true.1 hok j (List.mem_range.2 (by omega))
    unfold okAt at hoj
    simp only [Bool.and_eq_true, decide_eq_true_eq, Bool.or_eq_true, beq_iff_eq] at hoj
    have hs : l.getD j 0 + dAt l j = l.getD (j + 1) 0 := by unfold dAt; omega
    have hst := stepR_back (l.getD j 0) (dAt l j) (decide (dAt l 0 < 0)) (getD_i64x hu j) (by rw [hs]; exact getD_i64x hu (j + 1)) hoj.1 hoj.2
    rw [hs] at hst
    rw [drop_cons _ j (by rw [dsz_len]; omega), hd]
    simp only [stepsDe]
    rw [hst, if_pos (by simp)]
    dsimp only
    rw [ih (j + 1) (by omega), drop_cons l (j + 1) (by omega)]
    rfl
theorem same_rep (l : List Int) (m : Nat) (h : sameD l m = true) : List.replicate m (absI (dAt l 0)) = dsz l m := by
  apply List.ext_getElem?
  intro i
  rcases Nat.lt_or_ge i m with hi | hi
  · have := List.all_eq_true.1 h i (List.mem_range.2 hi)
    simp only [decide_eq_true_eq] at this
    simp [dsz, hi, this]
  · rw [List.getElem?_eq_none (by simpa using hi), List.getElem?_eq_none (by rw [dsz_len]; exact hi)]
theorem wOf_closest (b : Int) (h1 : 2 ≤ b) (h2 : b ≤ 64) : 0 < wCode (wClosest b) ∧ wCode (wClosest b) ≤ 31 ∧ wOf (wCode (wClosest b)) = wClosest b := by
  obtain ⟨h3, h4, h5⟩ := wOf_code b (by omega) h2
  have h6 := wClosest_room b (by omega) h2
  refine ⟨?_, h5, h3⟩
  rcases Int.lt_or_le 0 (wCode (wClosest b)) with h | h
  · exact h
  · have h7 : wCode (wClosest b) = 0 := by omega
    rw [h7] at h3
    have h8 : wOf 0 = 1 := by decide
    omega

theorem de_back (l : List Int) (hu : I64 l) (h2 : 2 ≤ l.length) (h5 : l.length ≤ 512) (hok : okD l (l.length - 1) = true) (q : List Int) : takeDe ((putDe l true).1 ++ q) true = (l, q, 0) := by
  have hbd : ¬ badDe l true := by
    unfold badDe
    rw [hok]
    rintro (h | h | ⟨h, _⟩ | h)
    · omega
    · omega
    · cases h
    · cases h
  unfold putDe
  rw [if_neg hbd]
  dsimp only
  have hd0 := dAt0_range l (l.length - 1) (by omega) hok
  have hx0 := getD_i64x hu 0
  have hsteps := steps_back l hu (l.length - 1) (by omega) hok (l.length - 1) 0 (by omega)
  rw [List.drop_zero] at hsteps
  have hl : l.getD 0 0 :: l.drop (0 + 1) = l := by rw [← drop_cons l 0 (by omega), List.drop_zero]
  have hdiff : diffR 0 (dAt l 0) = (absI (dAt l 0), decide (dAt l 0 < 0), true) := by
    rw [diffR_eq, Int.sub_zero, if_neg (by omega)]
  cases hsm : sameD l (l.length - 1)
  · have htd : tailDe l = (dsz l (l.length - 1)).drop 1 := by unfold tailDe; rw [hsm]; rfl
    have hwd : widthDe l = wClosest (max 2 (mostBits ((dsz l (l.length - 1)).drop 1) : Int)) := by unfold widthDe; rw [hsm]; rfl
    have hcd : codeDe l = wCode (widthDe l) := by unfold codeDe; rw [hsm]; rfl
    have hut := tail_u64 l (l.length - 1) hok
    obtain ⟨K, hkw, hk2, hk64, hroom⟩ := most2_room _ hut
    have hmm := mostBits_le _ hut
    have hcl := wOf_closest (max 2 (mostBits ((dsz l (l.length - 1)).drop 1) : Int)) (by omega) (by omega)
    rw [hkw] at hwd hcl
    have htl : ((dsz l (l.length - 1)).drop 1).length = l.length - 2 := by rw [List.length_drop, dsz_len]; omega
    obtain ⟨p, hp1, hp2, hp3, hp4⟩ := pack_back ((dsz l (l.length - 1)).drop 1) q K hk64 (by omega) hut hroom
    rw [hcd, hwd, htd, hp1]
    dsimp only
    rw [List.append_assoc, List.append_assoc, List.append_assoc]
    rw [takeDe_eq (look_head (wCode K) l.length _ (by omega) (by omega) 3 (by omega)) (takeI_put _ true hx0 (.inl rfl) _) (takeI_put _ true hd0.1 (.inl rfl) _) hdiff
      (show unpackR (p ++ q) ((l.length : Int) - 2) (wOf (wCode K)) = ((dsz l (l.length - 1)).drop 1, q, 0) from by rw [hcl.2.2, show ((l.length : Int) - 2) = (((dsz l (l.length - 1)).drop 1).length : Int) from by rw [htl]; omega]; exact hp4)]
    rw [if_neg (by omega), if_neg (by simp), if_neg (by simp), if_neg (by simp), if_neg (by simp), if_pos hcl.1, if_pos hcl.1]
    have hz : absI (dAt l 0) :: (dsz l (l.length - 1)).drop 1 = dsz l (l.length - 1) := by
      have h := drop_cons (dsz l (l.length - 1)) 0 (by rw [dsz_len]; omega)
      rw [List.drop_zero] at h
      rw [h]
      simp [dsz, List.getD, List.getElem?_map, List.getElem?_range (show 0 < l.length - 1 by omega)]
    rw [hz, hsteps]
    simp only [finDe]
    rw [hl]
  · have htd : tailDe l = [] := by unfold tailDe; rw [hsm]; rfl
    have hwd : widthDe l = 0 := by unfold widthDe; rw [hsm]; rfl
    have hcd : codeDe l = 0 := by unfold codeDe; rw [hsm]; rfl
    rw [hcd, hwd, htd, show (packR [] 0).1 = [] from rfl, List.append_nil, List.append_assoc, List.append_assoc]
    obtain ⟨L, r3, e3, h5'⟩ : ∃ L r3 e3, unpackR q ((l.length : Int) - 2) (wOf 0) = (L, r3, e3) := ⟨_, _, _, rfl⟩
    rw [takeDe_eq (look_head 0 l.length _ (by omega) (by omega) 3 (by omega)) (takeI_put _ true hx0 (.inl rfl) _) (takeI_put _ true hd0.1 (.inl rfl) _) hdiff h5']
    rw [if_neg (by omega), if_neg (by simp), if_neg (by simp), if_neg (by simp), if_neg (by simp), if_neg (by omega), if_neg (by omega), show ((l.length : Int) - 1).toNat = l.length - 1 from by omega, same_rep l _ hsm, hsteps]
    simp only [finDe]
    rw [hl]
theorem de_put (l : List Int) (h2 : 2 ≤ l.length) (h5 : l.length ≤ 512) : (putDe l true).2 = if okD l (l.length - 1) = true then 0 else 1 := by
  unfold putDe
  by_cases hok : okD l (l.length - 1) = true
  · rw [if_pos hok, if_neg]
    intro h
    unfold badDe at h
    rcases h with h | h | ⟨h, _⟩ | h
    · omega
    · omega
    · cases h
    · rw [hok] at h; cases h
  · rw [if_neg hok, if_pos]
    unfold badDe
    exact .inr (.inr (.inr (by simpa using hok)))
end Go.Proofs.YtbmooemlekckbaaDoor

/- bytes.Repeat of one byte. -/
namespace Go.Proofs.YtbmooemlekckbaaDoor
open Go.RowKit

/-- The world while a byte is laid down again and again. -/
def RepW (w0 wr : World) (M q : Nat) (c : Int) : Prop :=
  ∃ cur : List Value, wr.heap[w0.heap.size]? = some (.cells cur.toArray 5 (0, 0)) ∧ cur.length = M ∧ (∀ j, j < q → cur[j]? = some (.int .u8 c)) ∧ Below w0.heap.size w0 wr
theorem RepW.ri {w0 wr : World} {M n : Nat} {c : Int} (h : RepW w0 wr M n c) (cap : Nat) (hn : n ≤ cap ∧ cap ≤ 9223372036854775807) : Sl wr .u8 (some ⟨w0.heap.size, 0, none⟩) n cap (List.replicate n c) := by
  obtain ⟨cur, h1, h2, h3, h4⟩ := h
  refine ⟨⟨by simp, fun _ => ⟨_, 0, rfl, (Array.getElem?_eq_some_iff.1 h1).1, fun j u hu => ?_⟩⟩, hn⟩
  rw [List.map_replicate, List.getElem?_replicate] at hu
  split at hu
  · have h5 := h3 j (by omega)
    have h6 := cell_of_row wr w0.heap.size j cur.toArray _ _ h1
    rw [Nat.zero_add, h6]
    simpa [h5] using hu
  · cases hu

theorem RepW_src {wr : World} {g q m : Nat} {t : TypeId} {cur : List Value} {c : Int} (h1 : wr.heap[g]? = some (.cells cur.toArray t (0, 0))) (h3 : ∀ j, j < q → cur[j]? = some (.int .u8 c)) (hm : m ≤ q) :
    ∀ j v, (List.replicate m (Value.int .u8 c))[j]? = some v → wr.drew.cell? ((⟨g, 0, none⟩ : Addr).add j) = some v := by
  intro j v hv
  rw [List.getElem?_replicate] at hv
  split at hv
  · rw [add_none, Nat.zero_add]
    have h6 := cell_of_row wr g j cur.toArray _ _ h1
    have h5 := h3 j (by omega)
    show wr.cell? _ = _
    rw [h6]
    simpa [h5] using hv
  · cases hv
theorem one_rep (m : Nat) (c : Int) : ∀ v ∈ List.replicate m (Value.int .u8 c), v.oneCell' = true := by
  intro v hv
  rw [List.eq_of_mem_replicate hv]; rfl

set_option maxRecDepth 100000 in
set_option maxHeartbeats 1000000 in
theorem Repeat1_any (w : World) (A : Option Addr) (cap : Nat) (c : Int) (hr : Ri w .u8 A 1 [c]) (n : Nat) (h1 : 1 ≤ n) (hn : n ≤ 1000) :
    Calls Tryd.prog 31 #[.slice A 1 cap, .int .i64 n] w (BytesOut w (List.replicate n c)) := by
  have HR := Lib.hid hr; clear hr
  obtain ⟨cs, hrunM, hle, hmax⟩ := Lib.run_makeNoZero (P := Tryd.prog) w #[3] 27 5 Tryd.underlying27 n (by omega)
  have hcall : (callFunc 42 #[.int .i64 (n : Int)]).run Tryd.prog w = .ok (.value (.slice (some ⟨w.heap.size, 0, none⟩) n cs.size)) ((w.alloc (.cells cs 5)).drewN 2) := by
    rw [run_callFunc_extern Tryd.func42 (by kernel_rfl) (by kernel_rfl) (by kernel_rfl) (e := Extern.BytealgMakeNoZero.makeNoZero #[3] #[27]) (by kernel_rfl), hrunM]
    rfl
  have hm := hmax (by unfold maxLen; omega)
  unfold maxLen at hm
  clear hrunM hmax
  go_enter Tryd.func31, Tryd.ntmps31
  go_wp2_with fail
  refine (Mul_one _ (by omega) _).mono ?_; rintro e w' ⟨rfl, rfl⟩
  obtain ⟨b, o, hA, hb, hcell⟩ := HR.out.all (by omega)
  subst hA
  have hcell0 := hcell 0 (by omega)
  go_wp2_with (with_reducible refine wpList_copy_splice rfl (.tmp 58) (.tmp 59) 27 27 rfl 5 Tryd.underlying27 (by kernel_rfl) (some ⟨w.heap.size, 0, none⟩) (some ⟨b, o, none⟩) n n 1 cap rfl rfl w.heap.size 0 cs.toList 5 ?c1 [.int .u8 c] ?c2 ?c3 ?c4 ?c5 w.heap.size w ?c6 (Nat.le_refl _) ?_)
  case c1 => show (w.alloc _).heap[w.heap.size]? = _; rw [heap_alloc_new]
  case c2 => exact (Nat.min_eq_left h1).symm
  case c3 =>
    intro j v hv
    have hj : j = 0 := by
      rcases Nat.eq_zero_or_pos j with h | h
      · exact h
      · rw [List.getElem?_eq_none (by simp; omega)] at hv; cases hv
    subst hj
    simp at hv
    subst hv
    exact hcell0
  case c4 => simp; omega
  case c5 => simp [Value.oneCell']
  case c6 => exact below_drewN ((Below.refl _ _).alloc (Nat.le_refl _) _) _
  intro w1 hg1 hb1
  have hrw : Hid (RepW w w1 cs.size 1 c) := by
    refine ⟨_, hg1, by rw [length_splice _ _ _ (by simp; omega)]; simp, fun j hj => ?_, hb1⟩
    exact splice_get (q := 0) (m := 1) (by simp; omega) (fun j hj => absurd hj (by omega)) j (by omega)
  clear hcall hcell hcell0 hg1 hb1
  go_wp2_with fail
  go_loopw [10] (fun bp wr => ∃ q : Nat, 1 ≤ q ∧ q ≤ n ∧ bp = .int .i64 q ∧ Hid (RepW w wr cs.size q c)) (fun bp _ => n - (intOf bp).toNat)
  case atStart => exact ⟨1, by omega, h1, rfl, hrw⟩
  case round =>
    obtain ⟨q, hq1, hq2, rfl, hrq⟩ := hrel
    by_cases hlt : q < n
    · obtain ⟨cur, k1, k2, k3, k4⟩ := hrq.out
      have K1 := Lib.hid k1; have K3 := Lib.hid k3; have K4 := Lib.hid k4
      obtain ⟨m, hm⟩ : ∃ m, m = Nat.min q (n - q) := ⟨_, rfl⟩
      have hm1 : 1 ≤ m := by rw [hm]; exact Nat.le_min.2 ⟨hq1, by omega⟩
      have hm2 : m ≤ n - q := by rw [hm]; exact Nat.min_le_right _ _
      have hm3 : m ≤ q := by rw [hm]; exact Nat.min_le_left _ _
      have HM := Lib.hid hm
      clear k1 k3 k4 hm
      have hnq : ¬ n = q := by omega
      have K1d : Hid (wr.drew.heap[w.heap.size]? = some (.cells cur.toArray 5 (0, 0))) := K1
      have K4d : Hid (Below w.heap.size w wr.drew) := K4.out.drew
      have hsz1 : (Tryd.prog.info? 5).map (·.size) = some 1 := by kernel_rfl
      have HSZ := Lib.hid hsz1; clear hsz1
      have hfit : q + (List.replicate m (Value.int .u8 c)).length ≤ cur.length := by rw [List.length_replicate]; omega
      have HSUM : Hid (IntKind.i64.wrap ((q : Int) + m) = ((q + m : Nat) : Int)) := (IntWalk.i64_in _ (by omega)).trans (by omega)
      go_wp2_with fail
      have hsum := HSUM.out
      go_region_law (with_reducible refine step_copy_splice rfl (.tmp 70) (.tmp 73) 27 27 rfl 5 Tryd.underlying27 HSZ.out (some ⟨w.heap.size, q, none⟩) (some ⟨w.heap.size, 0, none⟩) (n - q) (n - q) q n (by kernel_rfl) (by kernel_rfl) w.heap.size q cur 5 K1d.out (List.replicate m (.int .u8 c)) (by rw [List.length_replicate]; exact HM.out) (fun _ => ⟨rfl, _, rfl, RepW_src K1.out K3.out hm3⟩) hfit (one_rep m c) w.heap.size w K4d.out (Nat.le_refl _) ?_; intro w4 hg4 hb4; have HG4 := Lib.hid hg4.out; have HB4 := Lib.hid hb4; clear hg4 hb4; rw [List.length_replicate])
      clear hsum
      simp only [List.getElem_toArray, List.getElem_cons_succ, List.getElem_cons_zero, Act.put, List.setIfInBounds_toArray, List.set_cons_succ, List.set_cons_zero]
      go_wp2_with fail
      go_roundw
      case rel => 
        refine ⟨q + m, by omega, by omega, by go_num, ?_⟩
        exact ⟨_, HG4.out, by rw [length_splice _ _ _ (by rw [List.length_replicate]; omega)]; exact k2, fun j hj => splice_get (by omega) K3.out j hj, HB4.out⟩
      case measure => simp [intOf] <;> omega
    · obtain rfl : q = n := by omega
      go_wp2_with fail
      go_ret
      obtain ⟨h1', h2'⟩ := hrq.out.ri q ⟨Nat.le_refl _, by omega⟩
      exact ⟨_, _, _, rfl, ⟨h1', h2'⟩, hrq.out.choose_spec.2.2.2⟩
end Go.Proofs.YtbmooemlekckbaaDoor

/- byterle.Take. -/
namespace Go.Proofs.YtbmooemlekckbaaDoor
open Go.RowKit

/-- Two rows of bytes and an error's number are handed back. -/
def BytesTwo (w : World) (l1 l2 : List Int) (er : Int) (e : Ending) (w' : World) : Prop :=
  ∃ G n c G2 n2 c2, e = .returned (.tuple #[.slice G n c, .slice G2 n2 c2, .int .i64 er]) ∧ Sl w' .u8 G n c l1 ∧ Sl w' .u8 G2 n2 c2 l2 ∧ Below w.heap.size w w'
theorem BytesTwo.nil {w w' : World} {er : Int} (h : Below w.heap.size w w') : BytesTwo w [] [] er (.returned (.tuple #[.slice none 0 0, .slice none 0 0, .int .i64 er])) w' :=
  ⟨none, 0, 0, none, 0, 0, rfl, Sl.nil _ _, Sl.nil _ _, h⟩
theorem tuck {p : Prop} (h : p) : Hid p := h
theorem untuck {p : Prop} (h : Hid p) : p := h
def lenV : Value → Nat
  | .slice _ n _ => n
  | _ => 0
theorem Ri.mid {w : World} {k : IntKind} {n : Nat} {l : List Int} {b o : Nat} (h : Ri w k (some ⟨b, o, none⟩) n l) {i m : Nat} (hm : i + m ≤ n) : Ri w k (some ⟨b, o + i, none⟩) m ((l.drop i).take m) := by
  have h1 := h.rest (i := i) (by omega) (fun _ => rfl)
  exact h1.first (by omega)
theorem getD_one (l : List Int) (i : Nat) (h : i < l.length) : (l.drop i).take 1 = [l.getD i 0] := by
  rw [List.drop_eq_getElem_cons h, List.take_succ_cons, List.take_zero]; simp [List.getD, List.getElem?_eq_getElem h]
theorem getD_u8 {l : List Int} (h : U8 l) (i : Nat) : 0 ≤ l.getD i 0 ∧ l.getD i 0 < 256 := by
  rcases Nat.lt_or_ge i l.length with h1 | h1
  · exact h _ (by simp [List.getD, List.getElem?_eq_getElem h1])
  · rw [show l.getD i 0 = 0 from by simp [List.getD, List.getElem?_eq_none h1]]; omega

/-- The state while bytes are taken. -/
def TakeW (w wr : World) (M n : Nat) (res : List Int × List Int × Int) (b v : Value) : Prop :=
  ∃ A n' c l' o f, b = .slice A n' c ∧ Ri w .u8 A n' l' ∧ U8 l' ∧ n' ≤ c ∧ c ≤ 9223372036854775807 ∧ n' ≤ n ∧ wr.ownsRow w.heap.size 5 1 v o.length (o.map (Value.int .u8)) ∧ Below w.heap.size w wr ∧ decF f M o l' = res ∧ M < f + o.length ∧ o.length ≤ 5000

set_option maxRecDepth 100000 in
set_option maxHeartbeats 2000000 in
theorem Take5_any (w : World) (A : Option Addr) (n cap : Nat) (l : List Int) (hr : Ri w .u8 A n l) (hu : U8 l) (hc : n ≤ cap) (hm : cap ≤ 9223372036854775807) (hn : n ≤ 1000000) (m : Int) (r1 r2 : List Int) (er : Int) (hp : decR l m = (r1, r2, er)) :
    Calls Tryd.prog 35 #[.slice A n cap, .int .i64 m] w (BytesTwo w r1 r2 er) := by
  have HR := Lib.hid hr; have HU := Lib.hid hu
  clear hr hu
  unfold decR at hp
  by_cases hbad : m < 0 ∨ 4096 < m
  · rw [if_pos hbad] at hp
    injection hp with e1 e2; injection e2 with e2 e3
    subst e1 e2 e3
    rcases hbad with hbad | hbad
    all_goals
      go_enter Tryd.func35, Tryd.ntmps35
      go_wp2_with fail
      refine bodyPost_ret (results_tmp3 rfl _ _ _) rfl ?_
      exact BytesTwo.nil (Below.refl _ _)
  · rw [if_neg hbad] at hp
    obtain ⟨M, rfl⟩ := Int.eq_ofNat_of_zero_le (show 0 ≤ m by omega)
    have hM : M ≤ 4096 := by omega
    rw [Int.toNat_natCast] at hp
    have HP := Lib.hid hp
    clear hp hbad
    go_enter Tryd.func35, Tryd.ntmps35
    go_wp2_with fail
    go_loopw [0, 7] (fun b v wr => Hid (TakeW w wr M n (r1, r2, er) b v)) (fun b _ _ => lenV b)
    case atStart => exact ⟨A, n, cap, l, [], M + 1, rfl, HR.out, HU.out, hc, hm, Nat.le_refl _, World.ownsRow_nil _ _ _ _, Below.refl _ _, HP.out, by simp, by simp⟩
    case round =>
      obtain ⟨A1, n1, c1, l1, o, f, rfl, hr1, hu1, hc1, hcm1, hn1, ho, hb, hd, hf, hol⟩ := hrel.out
      obtain ⟨G, gc, rfl⟩ := own_form ho
      have hgc := own_cap ho
      have HR1 := Lib.hid hr1; have HU1 := Lib.hid hu1; have HO := Lib.hid ho; have HB := Lib.hid hb; have HD := Lib.hid hd; have HL1 := Lib.hid hr1.len
      clear hrel hr1 hu1 ho hb hd
      rcases Nat.lt_or_ge o.length M with hlt | hge
      · obtain ⟨f, rfl⟩ : ∃ g, f = g + 1 := ⟨f - 1, by omega⟩
        have hd := HD.out
        simp only [decF] at hd
        rw [if_neg (by omega), HL1.out] at hd
        rcases Nat.lt_or_ge n1 2 with h2 | h2
        · rw [if_pos h2] at hd
          injection hd with e1 e2; injection e2 with e2 e3
          subst e1 e2 e3
          go_wp2_with fail
          refine bodyPost_ret (results_tmp3 rfl _ _ _) rfl ?_
          exact BytesTwo.nil HB.out
        · rw [if_neg (by omega)] at hd
          obtain ⟨b, of, hA, hbl, hcell⟩ := HR1.out.all (by omega)
          subst hA
          have hx0 := getD_u8 HU1.out 0
          obtain ⟨x, hx⟩ : ∃ x : Nat, (x : Int) = l1.getD 0 0 := ⟨(l1.getD 0 0).toNat, by omega⟩
          have g0 := (HB.out.cell (p := ⟨b, of + 0, none⟩) hbl).trans (hcell 0 (by omega))
          rw [← hx] at g0 hx0 hd
          rw [Nat.add_zero] at g0
          rw [Int.toNat_natCast] at hd
          have hc1' : ¬ c1 = 1 := by omega
          clear hcell hx HD
          rcases Nat.lt_or_ge x 128 with h128 | h128
          · rw [if_pos (by omega)] at hd
            have HD := Lib.hid hd; clear hd
            have HY := Lib.hid ((HR1.out.mid (i := 1) (m := 1) (by omega)).below HB.out)
            rw [getD_one l1 1 (by rw [HL1.out]; omega)] at HY
            go_wp2_with fail
            refine (Repeat1_any _ _ _ _ HY.out (x + 3) (by omega) (by omega)).mono ?_; rintro e w2 ⟨G2, n2, c2, rfl, hr2, hb2⟩
            have hn2 : n2 = x + 3 := by have := hr2.1.len; simpa using this.symm
            subst hn2
            have HO2 := Lib.hid (own_below HO.out hb2)
            have HB2 := Lib.hid (on HB.out hb2)
            have HR2 := Lib.hid hr2.1
            have hz2 := HB2.out.size
            clear hr2 hb2
            go_wp2_with (at_builtin; refine wpList_u8 _ rfl _ _ rfl w.heap.size _ o.length o rfl HO2.out _ (x + 3) _ (List.replicate (x + 3) (l1.getD 1 0)) rfl HR2.out (by omega) (by omega) ?_; intro G3 c3 w3 hown hgr hcc)
            have HOWN := Lib.hid hown; have HGR := Lib.hid hgr
            clear hown hgr
            go_wp2_with fail
            refine ⟨⟨_, _, _, _, _, f, rfl, HR1.out.restIf (by omega) hc1, HU1.out.drop 2, by omega, by omega, by omega, ?_, push0 HB2.out (Nat.le_refl _) HO2.out HGR.out, HD.out, by simp only [List.length_append, List.length_replicate]; omega, by simp only [List.length_append, List.length_replicate]; omega⟩, ?_⟩
            · rw [List.length_append, List.length_replicate]; exact HOWN.out
            · show n1 - 2 < n1; omega
          · rw [if_neg (by omega)] at hd
            rcases Nat.lt_or_ge (256 - x) n1 with h256 | h256
            · rw [if_neg (by omega), show 257 - x = 256 - x + 1 from by omega] at hd
              have HD := Lib.hid hd; clear hd
              have HY := Lib.hid ((HR1.out.mid (i := 1) (m := 256 - x) (by omega)).below HB.out)
              go_wp2_with (at_builtin; refine wpList_u8 _ rfl _ _ rfl w.heap.size _ o.length o rfl HO.out _ (256 - x) _ ((l1.drop 1).take (256 - x)) rfl HY.out (by omega) HB.out.size ?_; intro G3 c3 w3 hown hgr hcc)
              have HOWN := Lib.hid hown; have HGR := Lib.hid hgr
              clear hown hgr
              go_wp2_with fail
              have HL := Lib.hid (show ((l1.drop 1).take (256 - x)).length = 256 - x by rw [List.length_take, List.length_drop, HL1.out]; omega)
              refine ⟨⟨_, _, _, _, _, f, rfl, HR1.out.restIf (by omega) hc1, HU1.out.drop _, by omega, by omega, by omega, ?_, push0 HB.out (Nat.le_refl _) HO.out HGR.out, HD.out, by rw [List.length_append, HL.out]; omega, by rw [List.length_append, HL.out]; omega⟩, ?_⟩
              · rw [List.length_append, HL.out]; exact HOWN.out
              · show n1 - (256 - x + 1) < n1; omega
            · rw [if_pos (by omega)] at hd
              injection hd with e1 e2; injection e2 with e2 e3
              subst e1 e2 e3
              go_wp2_with fail
              refine bodyPost_ret (results_tmp3 rfl _ _ _) rfl ?_
              exact BytesTwo.nil HB.out
      · rcases Nat.lt_or_ge M o.length with hgt | hle
        · have hd := HD.out
          rw [decF_over f M o l1 hgt] at hd
          injection hd with e1 e2; injection e2 with e2 e3
          subst e1 e2 e3
          go_wp2_with fail
          refine bodyPost_ret (results_tmp3 rfl _ _ _) rfl ?_
          exact BytesTwo.nil HB.out
        · have hd := HD.out
          rw [decF_done f M o l1 (by omega) hf] at hd
          injection hd with e1 e2; injection e2 with e2 e3
          subst e1 e2 e3
          go_wp2_with fail
          refine (bytesClone_any _ _ _ _ _ (HR1.out.below HB.out) (by omega)).mono ?_; rintro e w2 ⟨G2, n2, c2, rfl, hr2, hb2⟩
          go_wp2_with fail
          refine bodyPost_ret (results_tmp3 rfl _ _ _) rfl ?_
          exact ⟨_, _, _, G2, n2, c2, rfl, (Sl.of_own HO.out).below hb2, hr2, on HB.out hb2⟩
end Go.Proofs.YtbmooemlekckbaaDoor

/- The reference of byterle.Take. -/
namespace Go.Proofs.YtbmooemlekckbaaDoor
open Go.RowKit

/-- The state while the reference takes bytes. -/
def RTakeW (w wr : World) (M n : Nat) (l : List Int) (res : List Int × List Int × Int) (v : Value) (k : Nat) : Prop :=
  ∃ o f, k ≤ n ∧ wr.ownsRow w.heap.size 5 1 v o.length (o.map (Value.int .u8)) ∧ Below w.heap.size w wr ∧ decF f M o (l.drop k) = res ∧ M < f + o.length ∧ o.length ≤ 5000
theorem drop_get (l : List Int) (k i : Nat) : (l.drop k).getD i 0 = l.getD (k + i) 0 := by simp [List.getD]

end Go.Proofs.YtbmooemlekckbaaDoor

/- The reference of byterle.Put. -/
namespace Go.Proofs.YtbmooemlekckbaaDoor
open Go.RowKit

theorem getD_drop (l : List Int) (k i : Nat) : (l.drop k).getD i 0 = l.getD (k + i) 0 := by simp [List.getD]
theorem run_is (l : List Int) (n k m : Nat) (hl : l.length = n) (h1 : 1 ≤ m) (h2 : m ≤ 130) (h3 : k + m ≤ n) (h : ∀ j, j < m → l.getD (k + j) 0 = l.getD k 0) (hs : m = 130 ∨ k + m = n ∨ l.getD (k + m) 0 ≠ l.getD k 0) : runN (l.drop k) = m := by
  refine runN_eq _ m h1 h2 (by rw [List.length_drop]; omega) (fun j hj => ?_) ?_
  · rw [getD_drop, getD_drop, Nat.add_zero]; exact h j hj
  · rw [getD_drop, getD_drop, Nat.add_zero, List.length_drop]
    rcases hs with h4 | h4 | h4
    · exact .inl h4
    · exact .inr (.inl (by omega))
    · exact .inr (.inr h4)
def SameOut (w : World) (m : Nat) (e : Ending) (w' : World) : Prop := e = .returned (.int .i64 m) ∧ ∃ nq, w' = w.drewN nq

/-- The state while the reference lays bytes down. -/
def RPutW (w wr : World) (l : List Int) (v : Value) (k : Nat) : Prop :=
  ∃ o : List Int, wr.ownsRow w.heap.size 5 1 v o.length (o.map (Value.int .u8)) ∧ Below w.heap.size w wr ∧ o ++ enc 0 [] (l.drop k) = enc 0 [] l ∧ o.length ≤ 2 * k

theorem Ri_two (w : World) (k : IntKind) (x y : Int) (t : TypeId) : Ri (w.alloc (.cells #[.int k x, .int k y] t)) k (some ⟨w.heap.size, 0, none⟩) 2 [x, y] := by
  refine ⟨rfl, fun _ => ⟨w.heap.size, 0, rfl, by simp, fun j u hu => ?_⟩⟩
  rw [(Blk.new w t _).cell, Nat.zero_add]; simpa using hu
theorem own_drewN {w : World} {B : Nat} {e : TypeId} {size n : Nat} {v : Value} {xs : List Value} (h : w.ownsRow B e size v n xs) (m : Nat) : (w.drewN m).ownsRow B e size v n xs := h
theorem rputw_list {w w5 : World} {l o : List Int} {n k E c5 : Nat} {G5 : Option Addr} (hE1 : 1 ≤ E - k) (he1 : k ≤ E) (he2 : E ≤ n) (hol : o.length ≤ 2 * k) (henc : o ++ enc 0 [] (l.drop k) = enc 0 [] l)
    (hs : enc 0 [] (l.drop k) = (256 - ((E - k : Nat) : Int)) :: ((l.drop k).take (E - k) ++ enc 0 [] (l.drop E))) (hl : ((l.drop k).take (E - k)).length = E - k)
    (ho : w5.ownsRow w.heap.size 5 1 (.slice G5 (o.length + 1 + (E - k)) c5) (o.length + 1 + (E - k)) ((o ++ [256 - ((E : Int) - k)] ++ (l.drop k).take (E - k)).map (Value.int .u8))) (hb : Below w.heap.size w w5) :
    ∃ k' : Nat, k' ≤ n ∧ Value.int .i64 E = .int .i64 k' ∧ Hid (RPutW w w5 l (.slice G5 (o.length + 1 + (E - k)) c5) k') := by
  refine ⟨E, he2, rfl, o ++ [256 - ((E : Int) - k)] ++ (l.drop k).take (E - k), ?_, hb, ?_, ?_⟩
  · rw [List.length_append, List.length_append, hl]; exact ho
  · rw [← henc, hs, show ((E - k : Nat) : Int) = (E : Int) - k from by omega]; simp
  · rw [List.length_append, List.length_append, hl, List.length_singleton]; omega
theorem rputw_run {w w5 : World} {l o : List Int} {n k c5 : Nat} {G5 : Option Addr} (hk : k < n) (hln : l.length = n) (h3 : 3 ≤ runN (l.drop k)) (hol : o.length ≤ 2 * k) (henc : o ++ enc 0 [] (l.drop k) = enc 0 [] l)
    (ho : w5.ownsRow w.heap.size 5 1 (.slice G5 (o.length + 2) c5) (o.length + 2) ((o ++ [(runN (l.drop k) : Int) - 3, l.getD k 0]).map (Value.int .u8))) (hb : Below w.heap.size w w5) :
    k + runN (l.drop k) ≤ n ∧ Hid (RPutW w w5 l (.slice G5 (o.length + 2) c5) (k + runN (l.drop k))) := by
  have h1 := runN_le (l.drop k)
  rw [List.length_drop, hln] at h1
  have h2 := enc_long (l.drop k) [] h3
  rw [chunks_nil, List.nil_append, getD_drop, Nat.add_zero, List.drop_drop] at h2
  refine ⟨by omega, o ++ [(runN (l.drop k) : Int) - 3, l.getD k 0], ?_, hb, ?_, ?_⟩
  · rw [List.length_append]; exact ho
  · rw [← henc, h2]; simp
  · rw [List.length_append]; simp; omega

end Go.Proofs.YtbmooemlekckbaaDoor

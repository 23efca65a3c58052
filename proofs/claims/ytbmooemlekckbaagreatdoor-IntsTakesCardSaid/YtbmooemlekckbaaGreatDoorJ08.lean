/- Joined texts: RepB, ByT, ByRT. Each has its own head line. No condition beyond those that its theorems state. -/
import Derived.Lib.MakeNoZero
import Derived.Laws.CopyOwn
import Derived.Deep.RegionLaw
import Derived.Test.YtbmooemlekckbaaGreatDoorJ05
import Derived.Test.YtbmooemlekckbaaGreatDoorJ04
import Derived.Test.YtbmooemlekckbaaGreatDoorJ02
import Derived.Test.YtbmooemlekckbaaGreatDoorJ07
set_option linter.unusedVariables false

/- bytes.Repeat of one byte. -/
namespace Go.Proofs.YtbmooemlekckbaaGreatDoor
open Go.RowKit

/-- The world while a byte is laid down again and again. -/
def RepW (w0 wr : World) (M q : Nat) (c : Int) : Prop :=
  ∃ cur : List Value, wr.heap[w0.heap.size]? = some (.cells cur.toArray 5 (0, 0)) ∧ cur.length = M ∧ (∀ j, j < q → cur[j]? = some (.int .u8 c)) ∧ Below w0.heap.size w0 wr
theorem RepW.ri {w0 wr : World} {M n : Nat} {c : Int} (h : RepW w0 wr M n c) (cap : Nat) (hn : n ≤ cap ∧ cap ≤ 9223372036854775807) : Sl wr .u8 (some ⟨w0.heap.size, 0, none⟩) n cap (List.replicate n c) := by
  obtain ⟨cur, h1, h2, h3, h4⟩ := h
  refine ⟨⟨by simp, fun _ => ⟨_, 0, rfl, (Array.getElem?_eq_some_iff.1 h1).1, fun j u hu => ?_⟩⟩, hn⟩
  rw [List.map_replicate, List.getElem?_replicate] at hu
  split at hu
  · have h5 := h3 j (by omega)
    have h6 := cell_of_row wr w0.heap.size j cur.toArray _ _ h1
    rw [Nat.zero_add, h6]
    simpa [h5] using hu
  · cases hu

theorem RepW_src {wr : World} {g q m : Nat} {t : TypeId} {cur : List Value} {c : Int} (h1 : wr.heap[g]? = some (.cells cur.toArray t (0, 0))) (h3 : ∀ j, j < q → cur[j]? = some (.int .u8 c)) (hm : m ≤ q) :
    ∀ j v, (List.replicate m (Value.int .u8 c))[j]? = some v → wr.drew.cell? ((⟨g, 0, none⟩ : Addr).add j) = some v := by
  intro j v hv
  rw [List.getElem?_replicate] at hv
  split at hv
  · rw [add_none, Nat.zero_add]
    have h6 := cell_of_row wr g j cur.toArray _ _ h1
    have h5 := h3 j (by omega)
    show wr.cell? _ = _
    rw [h6]
    simpa [h5] using hv
  · cases hv
theorem one_rep (m : Nat) (c : Int) : ∀ v ∈ List.replicate m (Value.int .u8 c), v.oneCell' = true := by
  intro v hv
  rw [List.eq_of_mem_replicate hv]; rfl

set_option maxRecDepth 100000 in
set_option maxHeartbeats 1000000 in
theorem Repeat1_any (w : World) (A : Option Addr) (cap : Nat) (c : Int) (hr : Ri w .u8 A 1 [c]) (n : Nat) (h1 : 1 ≤ n) (hn : n ≤ 1000) :
    Calls Tryz.prog 49 #[.slice A 1 cap, .int .i64 n] w (BytesOut w (List.replicate n c)) := by
  have HR := Lib.hid hr; clear hr
  obtain ⟨cs, hrunM, hle, hmax⟩ := Lib.run_makeNoZero (P := Tryz.prog) w #[3] 25 5 Tryz.underlying25 n (by omega)
  have hcall : (callFunc 74 #[.int .i64 (n : Int)]).run Tryz.prog w = .ok (.value (.slice (some ⟨w.heap.size, 0, none⟩) n cs.size)) ((w.alloc (.cells cs 5)).drewN 2) := by
    rw [run_callFunc_extern Tryz.func74 (by kernel_rfl) (by kernel_rfl) (by kernel_rfl) (e := Extern.BytealgMakeNoZero.makeNoZero #[3] #[25]) (by kernel_rfl), hrunM]
    rfl
  have hm := hmax (by unfold maxLen; omega)
  unfold maxLen at hm
  clear hrunM hmax
  go_enter Tryz.func49, Tryz.ntmps49
  go_wp2_with fail
  refine (Mul_one _ (by omega) _).mono ?_; rintro e w' ⟨rfl, rfl⟩
  obtain ⟨b, o, hA, hb, hcell⟩ := HR.out.all (by omega)
  subst hA
  have hcell0 := hcell 0 (by omega)
  go_wp2_with (with_reducible refine wpList_copy_splice rfl (.tmp 58) (.tmp 59) 25 25 rfl 5 Tryz.underlying25 (by kernel_rfl) (some ⟨w.heap.size, 0, none⟩) (some ⟨b, o, none⟩) n n 1 cap rfl rfl w.heap.size 0 cs.toList 5 ?c1 [.int .u8 c] ?c2 ?c3 ?c4 ?c5 w.heap.size w ?c6 (Nat.le_refl _) ?_)
  case c1 => show (w.alloc _).heap[w.heap.size]? = _; rw [heap_alloc_new]
  case c2 => exact (Nat.min_eq_left h1).symm
  case c3 =>
    intro j v hv
    have hj : j = 0 := by
      rcases Nat.eq_zero_or_pos j with h | h
      · exact h
      · rw [List.getElem?_eq_none (by simp; omega)] at hv; cases hv
    subst hj
    simp at hv
    subst hv
    exact hcell0
  case c4 => simp; omega
  case c5 => simp [Value.oneCell']
  case c6 => exact below_drewN ((Below.refl _ _).alloc (Nat.le_refl _) _) _
  intro w1 hg1 hb1
  have hrw : Hid (RepW w w1 cs.size 1 c) := by
    refine ⟨_, hg1, by rw [length_splice _ _ _ (by simp; omega)]; simp, fun j hj => ?_, hb1⟩
    exact splice_get (q := 0) (m := 1) (by simp; omega) (fun j hj => absurd hj (by omega)) j (by omega)
  clear hcall hcell hcell0 hg1 hb1
  go_wp2_with fail
  go_loopw [10] (fun bp wr => ∃ q : Nat, 1 ≤ q ∧ q ≤ n ∧ bp = .int .i64 q ∧ Hid (RepW w wr cs.size q c)) (fun bp _ => n - (intOf bp).toNat)
  case atStart => exact ⟨1, by omega, h1, rfl, hrw⟩
  case round =>
    obtain ⟨q, hq1, hq2, rfl, hrq⟩ := hrel
    by_cases hlt : q < n
    · obtain ⟨cur, k1, k2, k3, k4⟩ := hrq.out
      have K1 := Lib.hid k1; have K3 := Lib.hid k3; have K4 := Lib.hid k4
      obtain ⟨m, hm⟩ : ∃ m, m = Nat.min q (n - q) := ⟨_, rfl⟩
      have hm1 : 1 ≤ m := by rw [hm]; exact Nat.le_min.2 ⟨hq1, by omega⟩
      have hm2 : m ≤ n - q := by rw [hm]; exact Nat.min_le_right _ _
      have hm3 : m ≤ q := by rw [hm]; exact Nat.min_le_left _ _
      have HM := Lib.hid hm
      clear k1 k3 k4 hm
      have hnq : ¬ n = q := by omega
      have K1d : Hid (wr.drew.heap[w.heap.size]? = some (.cells cur.toArray 5 (0, 0))) := K1
      have K4d : Hid (Below w.heap.size w wr.drew) := K4.out.drew
      have hsz1 : (Tryz.prog.info? 5).map (·.size) = some 1 := by kernel_rfl
      have HSZ := Lib.hid hsz1; clear hsz1
      have hfit : q + (List.replicate m (Value.int .u8 c)).length ≤ cur.length := by rw [List.length_replicate]; omega
      have HSUM : Hid (IntKind.i64.wrap ((q : Int) + m) = ((q + m : Nat) : Int)) := (IntWalk.i64_in _ (by omega)).trans (by omega)
      go_wp2_with fail
      have hsum := HSUM.out
      go_region_law (with_reducible refine step_copy_splice rfl (.tmp 70) (.tmp 73) 25 25 rfl 5 Tryz.underlying25 HSZ.out (some ⟨w.heap.size, q, none⟩) (some ⟨w.heap.size, 0, none⟩) (n - q) (n - q) q n (by kernel_rfl) (by kernel_rfl) w.heap.size q cur 5 K1d.out (List.replicate m (.int .u8 c)) (by rw [List.length_replicate]; exact HM.out) (fun _ => ⟨rfl, _, rfl, RepW_src K1.out K3.out hm3⟩) hfit (one_rep m c) w.heap.size w K4d.out (Nat.le_refl _) ?_; intro w4 hg4 hb4; have HG4 := Lib.hid hg4.out; have HB4 := Lib.hid hb4; clear hg4 hb4; rw [List.length_replicate])
      clear hsum
      simp only [List.getElem_toArray, List.getElem_cons_succ, List.getElem_cons_zero, Act.put, List.setIfInBounds_toArray, List.set_cons_succ, List.set_cons_zero]
      go_wp2_with fail
      go_roundw
      case rel => 
        refine ⟨q + m, by omega, by omega, by go_num, ?_⟩
        exact ⟨_, HG4.out, by rw [length_splice _ _ _ (by rw [List.length_replicate]; omega)]; exact k2, fun j hj => splice_get (by omega) K3.out j hj, HB4.out⟩
      case measure => simp [intOf] <;> omega
    · obtain rfl : q = n := by omega
      go_wp2_with fail
      go_ret
      obtain ⟨h1', h2'⟩ := hrq.out.ri q ⟨Nat.le_refl _, by omega⟩
      exact ⟨_, _, _, rfl, ⟨h1', h2'⟩, hrq.out.choose_spec.2.2.2⟩
end Go.Proofs.YtbmooemlekckbaaGreatDoor

/- byterle.Take. -/
namespace Go.Proofs.YtbmooemlekckbaaGreatDoor
open Go.RowKit

/-- Two rows of bytes and an error's number are handed back. -/
def BytesTwo (w : World) (l1 l2 : List Int) (er : Int) (e : Ending) (w' : World) : Prop :=
  ∃ G n c G2 n2 c2, e = .returned (.tuple #[.slice G n c, .slice G2 n2 c2, .int .i64 er]) ∧ Sl w' .u8 G n c l1 ∧ Sl w' .u8 G2 n2 c2 l2 ∧ Below w.heap.size w w'
theorem BytesTwo.nil {w w' : World} {er : Int} (h : Below w.heap.size w w') : BytesTwo w [] [] er (.returned (.tuple #[.slice none 0 0, .slice none 0 0, .int .i64 er])) w' :=
  ⟨none, 0, 0, none, 0, 0, rfl, Sl.nil _ _, Sl.nil _ _, h⟩
theorem tuck {p : Prop} (h : p) : Hid p := h
theorem untuck {p : Prop} (h : Hid p) : p := h
def lenV : Value → Nat
  | .slice _ n _ => n
  | _ => 0
theorem Ri.mid {w : World} {k : IntKind} {n : Nat} {l : List Int} {b o : Nat} (h : Ri w k (some ⟨b, o, none⟩) n l) {i m : Nat} (hm : i + m ≤ n) : Ri w k (some ⟨b, o + i, none⟩) m ((l.drop i).take m) := by
  have h1 := h.rest (i := i) (by omega) (fun _ => rfl)
  exact h1.first (by omega)
theorem getD_one (l : List Int) (i : Nat) (h : i < l.length) : (l.drop i).take 1 = [l.getD i 0] := by
  rw [List.drop_eq_getElem_cons h, List.take_succ_cons, List.take_zero]; simp [List.getD, List.getElem?_eq_getElem h]
theorem getD_u8 {l : List Int} (h : U8 l) (i : Nat) : 0 ≤ l.getD i 0 ∧ l.getD i 0 < 256 := by
  rcases Nat.lt_or_ge i l.length with h1 | h1
  · exact h _ (by simp [List.getD, List.getElem?_eq_getElem h1])
  · rw [show l.getD i 0 = 0 from by simp [List.getD, List.getElem?_eq_none h1]]; omega

/-- The state while bytes are taken. -/
def TakeW (w wr : World) (M n : Nat) (res : List Int × List Int × Int) (b v : Value) : Prop :=
  ∃ A n' c l' o f, b = .slice A n' c ∧ Ri w .u8 A n' l' ∧ U8 l' ∧ n' ≤ c ∧ c ≤ 9223372036854775807 ∧ n' ≤ n ∧ wr.ownsRow w.heap.size 5 1 v o.length (o.map (Value.int .u8)) ∧ Below w.heap.size w wr ∧ decF f M o l' = res ∧ M < f + o.length ∧ o.length ≤ 5000

set_option maxRecDepth 100000 in
set_option maxHeartbeats 2000000 in
theorem Take5_any (w : World) (A : Option Addr) (n cap : Nat) (l : List Int) (hr : Ri w .u8 A n l) (hu : U8 l) (hc : n ≤ cap) (hm : cap ≤ 9223372036854775807) (hn : n ≤ 1000000) (m : Int) (r1 r2 : List Int) (er : Int) (hp : decR l m = (r1, r2, er)) :
    Calls Tryz.prog 63 #[.slice A n cap, .int .i64 m] w (BytesTwo w r1 r2 er) := by
  have HR := Lib.hid hr; have HU := Lib.hid hu
  clear hr hu
  unfold decR at hp
  by_cases hbad : m < 0 ∨ 4096 < m
  · rw [if_pos hbad] at hp
    injection hp with e1 e2; injection e2 with e2 e3
    subst e1 e2 e3
    rcases hbad with hbad | hbad
    all_goals
      go_enter Tryz.func63, Tryz.ntmps63
      go_wp2_with fail
      refine bodyPost_ret (results_tmp3 rfl _ _ _) rfl ?_
      exact BytesTwo.nil (Below.refl _ _)
  · rw [if_neg hbad] at hp
    obtain ⟨M, rfl⟩ := Int.eq_ofNat_of_zero_le (show 0 ≤ m by omega)
    have hM : M ≤ 4096 := by omega
    rw [Int.toNat_natCast] at hp
    have HP := Lib.hid hp
    clear hp hbad
    go_enter Tryz.func63, Tryz.ntmps63
    go_wp2_with fail
    go_loopw [0, 7] (fun b v wr => Hid (TakeW w wr M n (r1, r2, er) b v)) (fun b _ _ => lenV b)
    case atStart => exact ⟨A, n, cap, l, [], M + 1, rfl, HR.out, HU.out, hc, hm, Nat.le_refl _, World.ownsRow_nil _ _ _ _, Below.refl _ _, HP.out, by simp, by simp⟩
    case round =>
      obtain ⟨A1, n1, c1, l1, o, f, rfl, hr1, hu1, hc1, hcm1, hn1, ho, hb, hd, hf, hol⟩ := hrel.out
      obtain ⟨G, gc, rfl⟩ := own_form ho
      have hgc := own_cap ho
      have HR1 := Lib.hid hr1; have HU1 := Lib.hid hu1; have HO := Lib.hid ho; have HB := Lib.hid hb; have HD := Lib.hid hd; have HL1 := Lib.hid hr1.len
      clear hrel hr1 hu1 ho hb hd
      rcases Nat.lt_or_ge o.length M with hlt | hge
      · obtain ⟨f, rfl⟩ : ∃ g, f = g + 1 := ⟨f - 1, by omega⟩
        have hd := HD.out
        simp only [decF] at hd
        rw [if_neg (by omega), HL1.out] at hd
        rcases Nat.lt_or_ge n1 2 with h2 | h2
        · rw [if_pos h2] at hd
          injection hd with e1 e2; injection e2 with e2 e3
          subst e1 e2 e3
          go_wp2_with fail
          refine bodyPost_ret (results_tmp3 rfl _ _ _) rfl ?_
          exact BytesTwo.nil HB.out
        · rw [if_neg (by omega)] at hd
          obtain ⟨b, of, hA, hbl, hcell⟩ := HR1.out.all (by omega)
          subst hA
          have hx0 := getD_u8 HU1.out 0
          obtain ⟨x, hx⟩ : ∃ x : Nat, (x : Int) = l1.getD 0 0 := ⟨(l1.getD 0 0).toNat, by omega⟩
          have g0 := (HB.out.cell (p := ⟨b, of + 0, none⟩) hbl).trans (hcell 0 (by omega))
          rw [← hx] at g0 hx0 hd
          rw [Nat.add_zero] at g0
          rw [Int.toNat_natCast] at hd
          have hc1' : ¬ c1 = 1 := by omega
          clear hcell hx HD
          rcases Nat.lt_or_ge x 128 with h128 | h128
          · rw [if_pos (by omega)] at hd
            have HD := Lib.hid hd; clear hd
            have HY := Lib.hid ((HR1.out.mid (i := 1) (m := 1) (by omega)).below HB.out)
            rw [getD_one l1 1 (by rw [HL1.out]; omega)] at HY
            go_wp2_with fail
            refine (Repeat1_any _ _ _ _ HY.out (x + 3) (by omega) (by omega)).mono ?_; rintro e w2 ⟨G2, n2, c2, rfl, hr2, hb2⟩
            have hn2 : n2 = x + 3 := by have := hr2.1.len; simpa using this.symm
            subst hn2
            have HO2 := Lib.hid (own_below HO.out hb2)
            have HB2 := Lib.hid (on HB.out hb2)
            have HR2 := Lib.hid hr2.1
            have hz2 := HB2.out.size
            clear hr2 hb2
            go_wp2_with (at_builtin; refine wpList_u8 _ rfl _ _ rfl w.heap.size _ o.length o rfl HO2.out _ (x + 3) _ (List.replicate (x + 3) (l1.getD 1 0)) rfl HR2.out (by omega) (by omega) ?_; intro G3 c3 w3 hown hgr hcc)
            have HOWN := Lib.hid hown; have HGR := Lib.hid hgr
            clear hown hgr
            go_wp2_with fail
            refine ⟨⟨_, _, _, _, _, f, rfl, HR1.out.restIf (by omega) hc1, HU1.out.drop 2, by omega, by omega, by omega, ?_, push0 HB2.out (Nat.le_refl _) HO2.out HGR.out, HD.out, by simp only [List.length_append, List.length_replicate]; omega, by simp only [List.length_append, List.length_replicate]; omega⟩, ?_⟩
            · rw [List.length_append, List.length_replicate]; exact HOWN.out
            · show n1 - 2 < n1; omega
          · rw [if_neg (by omega)] at hd
            rcases Nat.lt_or_ge (256 - x) n1 with h256 | h256
            · rw [if_neg (by omega), show 257 - x = 256 - x + 1 from by omega] at hd
              have HD := Lib.hid hd; clear hd
              have HY := Lib.hid ((HR1.out.mid (i := 1) (m := 256 - x) (by omega)).below HB.out)
              go_wp2_with (at_builtin; refine wpList_u8 _ rfl _ _ rfl w.heap.size _ o.length o rfl HO.out _ (256 - x) _ ((l1.drop 1).take (256 - x)) rfl HY.out (by omega) HB.out.size ?_; intro G3 c3 w3 hown hgr hcc)
              have HOWN := Lib.hid hown; have HGR := Lib.hid hgr
              clear hown hgr
              go_wp2_with fail
              have HL := Lib.hid (show ((l1.drop 1).take (256 - x)).length = 256 - x by rw [List.length_take, List.length_drop, HL1.out]; omega)
              refine ⟨⟨_, _, _, _, _, f, rfl, HR1.out.restIf (by omega) hc1, HU1.out.drop _, by omega, by omega, by omega, ?_, push0 HB.out (Nat.le_refl _) HO.out HGR.out, HD.out, by rw [List.length_append, HL.out]; omega, by rw [List.length_append, HL.out]; omega⟩, ?_⟩
              · rw [List.length_append, HL.out]; exact HOWN.out
              · show n1 - (256 - x + 1) < n1; omega
            · rw [if_pos (by omega)] at hd
              injection hd with e1 e2; injection e2 with e2 e3
              subst e1 e2 e3
              go_wp2_with fail
              refine bodyPost_ret (results_tmp3 rfl _ _ _) rfl ?_
              exact BytesTwo.nil HB.out
      · rcases Nat.lt_or_ge M o.length with hgt | hle
        · have hd := HD.out
          rw [decF_over f M o l1 hgt] at hd
          injection hd with e1 e2; injection e2 with e2 e3
          subst e1 e2 e3
          go_wp2_with fail
          refine bodyPost_ret (results_tmp3 rfl _ _ _) rfl ?_
          exact BytesTwo.nil HB.out
        · have hd := HD.out
          rw [decF_done f M o l1 (by omega) hf] at hd
          injection hd with e1 e2; injection e2 with e2 e3
          subst e1 e2 e3
          go_wp2_with fail
          refine (bytesClone_any _ _ _ _ _ (HR1.out.below HB.out) (by omega)).mono ?_; rintro e w2 ⟨G2, n2, c2, rfl, hr2, hb2⟩
          go_wp2_with fail
          refine bodyPost_ret (results_tmp3 rfl _ _ _) rfl ?_
          exact ⟨_, _, _, G2, n2, c2, rfl, (Sl.of_own HO.out).below hb2, hr2, on HB.out hb2⟩
end Go.Proofs.YtbmooemlekckbaaGreatDoor

/- The reference of byterle.Take. -/
namespace Go.Proofs.YtbmooemlekckbaaGreatDoor
open Go.RowKit

/-- The state while the reference takes bytes. -/
def RTakeW (w wr : World) (M n : Nat) (l : List Int) (res : List Int × List Int × Int) (v : Value) (k : Nat) : Prop :=
  ∃ o f, k ≤ n ∧ wr.ownsRow w.heap.size 5 1 v o.length (o.map (Value.int .u8)) ∧ Below w.heap.size w wr ∧ decF f M o (l.drop k) = res ∧ M < f + o.length ∧ o.length ≤ 5000
theorem drop_get (l : List Int) (k i : Nat) : (l.drop k).getD i 0 = l.getD (k + i) 0 := by simp [List.getD]

set_option maxRecDepth 100000 in
set_option maxHeartbeats 2000000 in
theorem refTake5_any (w : World) (A : Option Addr) (n cap : Nat) (l : List Int) (hr : Ri w .u8 A n l) (hu : U8 l) (hc : n ≤ cap) (hm : cap ≤ 9223372036854775807) (hn : n ≤ 1000000) (m : Int) (r1 r2 : List Int) (er : Int) (hp : decR l m = (r1, r2, er)) :
    Calls Tryz.prog 44 #[.slice A n cap, .int .i64 m] w (BytesTwo w r1 r2 er) := by
  have HR := Lib.hid hr; have HU := Lib.hid hu; have HL := Lib.hid hr.len
  clear hr hu
  unfold decR at hp
  by_cases hbad : m < 0 ∨ 4096 < m
  · rw [if_pos hbad] at hp
    injection hp with e1 e2; injection e2 with e2 e3
    subst e1 e2 e3
    rcases hbad with hbad | hbad
    all_goals
      go_enter Tryz.func44, Tryz.ntmps44
      go_wp2_with fail
      refine bodyPost_ret (results_tmp3 rfl _ _ _) rfl ?_
      exact BytesTwo.nil (Below.refl _ _)
  · rw [if_neg hbad] at hp
    obtain ⟨M, rfl⟩ := Int.eq_ofNat_of_zero_le (show 0 ≤ m by omega)
    have hM : M ≤ 4096 := by omega
    rw [Int.toNat_natCast] at hp
    have HP := Lib.hid hp
    clear hp hbad
    go_enter Tryz.func44, Tryz.ntmps44
    go_wp2_with fail
    go_loopw [7, 8] (fun v i wr => ∃ k : Nat, i = .int .i64 k ∧ k ≤ n ∧ Hid (RTakeW w wr M n l (r1, r2, er) v k)) (fun _ i _ => n - (intOf i).toNat)
    case atStart => exact ⟨0, rfl, by omega, [], M + 1, by omega, own_empty w _ 1, (Below.refl _ _).alloc (Nat.le_refl _) _, HP.out, by simp, by simp⟩
    case round =>
      obtain ⟨k, rfl, hkn, hrel⟩ := hrel
      obtain ⟨o, f, _, ho, hb, hd, hf, hol⟩ := hrel.out
      obtain ⟨G, gc, rfl⟩ := own_form ho
      have hgc := own_cap ho
      have HO := Lib.hid ho; have HB := Lib.hid hb; have HD := Lib.hid hd
      clear hrel ho hb hd
      rcases Nat.lt_or_ge o.length M with hlt | hge
      · obtain ⟨f, rfl⟩ : ∃ g, f = g + 1 := ⟨f - 1, by omega⟩
        have hd := HD.out
        simp only [decF] at hd
        rw [if_neg (by omega), List.length_drop, HL.out, drop_get, drop_get, Nat.add_zero] at hd
        rcases Nat.lt_or_ge (n - k) 2 with h2 | h2
        · rw [if_pos h2] at hd
          injection hd with e1 e2; injection e2 with e2 e3
          subst e1 e2 e3
          go_wp2_with fail
          refine bodyPost_ret (results_tmp3 rfl _ _ _) rfl ?_
          exact BytesTwo.nil HB.out
        · rw [if_neg (by omega)] at hd
          obtain ⟨b, of, hA, hbl, hcell⟩ := HR.out.all (by omega)
          subst hA
          have hx0 := getD_u8 HU.out k
          obtain ⟨x, hx⟩ : ∃ x : Nat, (x : Int) = l.getD k 0 := ⟨(l.getD k 0).toNat, by omega⟩
          have g0 := (HB.out.cell (p := ⟨b, of + k, none⟩) hbl).trans (hcell k (by omega))
          rw [← hx] at g0 hx0 hd
          rw [Int.toNat_natCast] at hd
          have HC := Lib.hid hcell
          clear hcell hx HD
          rcases Nat.lt_or_ge x 128 with h128 | h128
          · rw [if_pos (by omega), List.drop_drop] at hd
            have HD := Lib.hid hd; clear hd
            have hb1 : decide ((x : Int) < 128) = true := decide_eq_true (by omega)
            have hb2 : decide ((n : Int) - k < 2) = false := decide_eq_false (by omega)
            go_wp2_with fail
            go_loopw [7, 10] (fun v i wi => ∃ j : Nat, i = .int .i64 j ∧ j ≤ x + 3 ∧ Hid (wi.ownsRow w.heap.size 5 1 v (o.length + j) ((o ++ List.replicate j (l.getD (k + 1) 0)).map (Value.int .u8))) ∧ Hid (Below w.heap.size w wi)) (fun _ i _ => x + 3 - (intOf i).toNat)
            case atStart => exact ⟨0, rfl, by omega, by simpa using HO, HB⟩
            case round =>
              obtain ⟨j, rfl, hj, hoj, hbj⟩ := hrel
              rcases Nat.lt_or_ge j (x + 3) with hjl | hjl
              · have hy0 := getD_u8 HU.out (k + 1)
                have g1 := (hbj.out.cell (p := ⟨b, of + (k + 1), none⟩) hbl).trans (HC.out (k + 1) (by omega))
                generalize l.getD (k + 1) 0 = y at *
                go_wp2_with (at_builtin; refine wpList_u8 _ rfl _ _ rfl w.heap.size _ _ (o ++ List.replicate j y) rfl (hoj.out.alloc _) _ 1 1 [y] rfl (Rd.one _ _ _) (by omega) (by have := hbj.out.size; simp; omega) ?_; intro G3 c3 w3 hown hgr hcc)
                have HOWN := Lib.hid hown; have HGR := Lib.hid hgr
                clear hown hgr
                go_wp2_with fail
                go_roundw
                case rel =>
                  refine ⟨j + 1, by go_num, by omega, ?_, push_ hbj.out (Nat.le_refl _) hoj.out HGR.out⟩
                  have h := HOWN.out
                  rw [List.append_assoc, ← List.replicate_succ'] at h
                  exact h
                case measure => simp [intOf] <;> omega
              · obtain rfl : j = x + 3 := by omega
                go_wp2_with fail
                go_roundw
                case rel =>
                  refine ⟨k + 2, by go_num, by omega, _, f, by omega, ?_, hbj.out, HD.out, by simp only [List.length_append, List.length_replicate]; omega, by simp only [List.length_append, List.length_replicate]; omega⟩
                  rw [List.length_append, List.length_replicate]; exact hoj.out
                case measure => simp [intOf] <;> omega
          · rw [if_neg (by omega), show 257 - x = 256 - x + 1 from by omega, List.drop_drop, List.drop_drop] at hd
            rcases Nat.lt_or_ge (256 - x) (n - k) with h256 | h256
            · rw [if_neg (by omega)] at hd
              obtain ⟨q, hq⟩ : ∃ q, q = k + 257 - x := ⟨_, rfl⟩
              have hq1 : 256 - x = q - (k + 1) := by omega
              have hq2 : k + 1 < q ∧ q ≤ n := by omega
              have e1 : (k : Int) + 257 - x = (q : Int) := by omega
              rw [show k + (256 - x + 1) = q from by omega, hq1] at hd
              have HD := Lib.hid hd; clear hd
              have HY := Lib.hid ((HR.out.mid (i := k + 1) (m := q - (k + 1)) (by omega)).below HB.out)
              have HL2 := Lib.hid (show ((l.drop (k + 1)).take (q - (k + 1))).length = q - (k + 1) by rw [List.length_take, List.length_drop, HL.out]; omega)
              have hne : ¬ cap = k + 1 := by omega
              clear hq hq1
              obtain ⟨hq1, hq2⟩ := hq2
              have hol2 : o.length + (q - (k + 1)) ≤ 5000 ∧ 0 < q - (k + 1) := by omega
              obtain ⟨hol2, hol3⟩ := hol2
              go_wp2_with (at_builtin; refine wpList_u8 _ rfl (.tmp 58) (.tmp 66) rfl w.heap.size _ o.length o rfl HO.out _ (q - (k + 1)) _ ((l.drop (k + 1)).take (q - (k + 1))) rfl HY.out (by omega) HB.out.size ?_; intro G3 c3 w3 hown hgr hcc)
              have HOWN := Lib.hid hown; have HGR := Lib.hid hgr
              clear hown hgr
              go_wp2_with fail
              go_roundw
              case rel =>
                refine ⟨q, rfl, by omega, _, f, by omega, ?_, push0 HB.out (Nat.le_refl _) HO.out HGR.out, HD.out, by rw [List.length_append, HL2.out]; omega, by rw [List.length_append, HL2.out]; omega⟩
                rw [List.length_append, HL2.out]; exact HOWN.out
              case measure => simp [intOf] <;> omega
            · rw [if_pos (by omega)] at hd
              injection hd with e1 e2; injection e2 with e2 e3
              subst e1 e2 e3
              go_wp2_with fail
              refine bodyPost_ret (results_tmp3 rfl _ _ _) rfl ?_
              exact BytesTwo.nil HB.out
      · rcases Nat.lt_or_ge M o.length with hgt | hle
        · have hd := HD.out
          rw [decF_over f M o _ hgt] at hd
          injection hd with e1 e2; injection e2 with e2 e3
          subst e1 e2 e3
          go_wp2_with fail
          refine bodyPost_ret (results_tmp3 rfl _ _ _) rfl ?_
          exact BytesTwo.nil HB.out
        · have hd := HD.out
          rw [decF_done f M o _ (by omega) hf] at hd
          injection hd with e1 e2; injection e2 with e2 e3
          subst e1 e2 e3
          have HSL := Lib.hid (Sl.of_own HO.out)
          have hcase : (n = 0 ∧ k = 0) ∨ (∃ b of, A = some ⟨b, of, none⟩ ∧ ((cap = k ∧ n = k) ∨ ¬ cap = k)) := by
            rcases Nat.eq_zero_or_pos n with h0 | h0
            · exact .inl ⟨h0, by omega⟩
            · obtain ⟨b, of, e, _⟩ := HR.out.all h0
              exact .inr ⟨b, of, e, by omega⟩
          rcases hcase with ⟨rfl, rfl⟩ | ⟨b, of, rfl, ⟨rfl, hnk⟩ | hck⟩
          · obtain rfl : l = [] := List.eq_nil_of_length_eq_zero HL.out
            go_wp2_with (at_builtin; refine wpList_u8 _ rfl (.tmp 77) (.tmp 80) rfl wr.heap.size _ 0 [] rfl (own_empty wr _ 1) _ 0 _ [] rfl (Ri.nil _ _ _) (by omega) (by simp) ?_; intro G3 c3 w3 hown hgr hcc; rw [Nat.zero_add, List.nil_append] at hown; have HOWN := Lib.hid hown; have HGR := Lib.hid hgr; clear hown hgr)
            all_goals
              refine bodyPost_ret (results_tmp3 rfl _ _ _) rfl ?_
              have hb3 := push0 ((Below.refl wr.heap.size wr).alloc (Nat.le_refl _) _) (Nat.le_refl _) (own_empty wr _ 1) HGR.out
              exact ⟨_, _, _, _, _, _, rfl, HSL.out.below hb3, Sl.of_own HOWN.out, on HB.out hb3⟩
          · obtain rfl : n = cap := hnk
            have hd0 : l.drop n = [] := List.drop_of_length_le (by rw [HL.out]; exact Nat.le_refl _)
            go_wp2_with (at_builtin; refine wpList_u8 _ rfl (.tmp 77) (.tmp 80) rfl wr.heap.size _ 0 [] rfl (own_empty wr _ 1) _ 0 _ [] rfl (Ri.nil _ _ _) (by omega) (by simp) ?_; intro G3 c3 w3 hown hgr hcc; rw [Nat.zero_add, List.nil_append] at hown; have HOWN := Lib.hid hown; have HGR := Lib.hid hgr; clear hown hgr)
            all_goals
              refine bodyPost_ret (results_tmp3 rfl _ _ _) rfl ?_
              have hb3 := push0 ((Below.refl wr.heap.size wr).alloc (Nat.le_refl _) _) (Nat.le_refl _) (own_empty wr _ 1) HGR.out
              rw [hd0]
              exact ⟨_, _, _, _, _, _, rfl, HSL.out.below hb3, Sl.of_own HOWN.out, on HB.out hb3⟩
          · have HQ := Lib.hid ((HR.out.rest (i := k) hkn (fun _ => rfl)).below HB.out)
            go_wp2_with (at_builtin; refine wpList_u8 _ rfl (.tmp 77) (.tmp 80) rfl wr.heap.size _ 0 [] rfl (own_empty wr _ 1) _ (n - k) _ (l.drop k) rfl (HQ.out.alloc _) (by omega) (by simp) ?_; intro G3 c3 w3 hown hgr hcc; rw [Nat.zero_add, List.nil_append] at hown; have HOWN := Lib.hid hown; have HGR := Lib.hid hgr; clear hown hgr)
            refine bodyPost_ret (results_tmp3 rfl _ _ _) rfl ?_
            have hb3 := push0 ((Below.refl wr.heap.size wr).alloc (Nat.le_refl _) _) (Nat.le_refl _) (own_empty wr _ 1) HGR.out
            exact ⟨_, _, _, _, _, _, rfl, HSL.out.below hb3, Sl.of_own HOWN.out, on HB.out hb3⟩
end Go.Proofs.YtbmooemlekckbaaGreatDoor

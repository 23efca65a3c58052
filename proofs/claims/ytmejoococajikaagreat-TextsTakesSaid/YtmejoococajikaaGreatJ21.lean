/- Joined texts: PRefB, RepeatI. Each has its own head line. No condition beyond those that its theorems state. -/
import Derived.Test.YtmejoococajikaaGreatJ19
import Derived.Test.YtmejoococajikaaGreatJ07
set_option linter.unusedVariables false

/- pilasterref10: pairs. -/
namespace Go.Proofs.YtmejoococajikaaGreat
open Go.RowKit

theorem own_apart {w : World} {B B2 n m : Nat} {e t : TypeId} {v u : Value} {xs ys : List Value} (h : w.ownsRow B e 1 v n xs) (h2 : w.ownsRow B2 t 1 u m ys) (hne : e ≠ t) : Apart v u := by
  have key : ∀ {B n : Nat} {e : TypeId} {v : Value} {xs : List Value}, w.ownsRow B e 1 v n xs → ∀ g, v.ownBlock = some g → ∃ cur, Blk w g e cur := by
    intro B n e v xs h g hg
    rcases h.2 with ⟨rfl, _⟩ | ⟨g', cap, cur, rfl, _, h2, _⟩
    · simp [Value.ownBlock] at hg
    · simp [Value.ownBlock] at hg
      subst hg
      exact ⟨cur, h2⟩
  intro g h3 h4
  obtain ⟨c1, k1⟩ := key h g h3
  obtain ⟨c2, k2⟩ := key h2 g h4
  unfold Blk at k1 k2
  rw [k1] at k2
  injection k2 with k2
  injection k2 with _ k2
  exact hne k2
/-- The two rows while pairs are sought. -/
def PairW (w0 w : World) (v1 v2 : Value) (P : List (Int × Int)) : Prop :=
  w.ownsRow w0.heap.size 3 1 v1 P.length ((P.map Prod.fst).map (Value.int .i64)) ∧ w.ownsRow w0.heap.size 109 1 v2 P.length ((P.map Prod.snd).map (Value.int .u64)) ∧ Below w0.heap.size w0 w
/-- A pair is laid down: first the gap, then the patch. -/
theorem pair_push {w0 w w3 w4 : World} {v1 v2 : Value} {P : List (Int × Int)} {a b : Int} {G1 G2 : Option Addr} {c1 c2 : Nat} {o1 o2 : Obj} (h : PairW w0 w v1 v2 P)
    (h1 : w3.ownsRow w0.heap.size 3 1 (.slice G1 (P.length + 1) c1) (P.length + 1) ((P.map Prod.fst ++ [a]).map (Value.int .i64))) (hg1 : (w.alloc o1).grownBy w3 v1.ownBlock)
    (h2 : w4.ownsRow w0.heap.size 109 1 (.slice G2 (P.length + 1) c2) (P.length + 1) ((P.map Prod.snd ++ [b]).map (Value.int .u64))) (hg2 : (w3.alloc o2).grownBy w4 v2.ownBlock) :
    PairW w0 w4 (.slice G1 (P.length + 1) c1) (.slice G2 (P.length + 1) c2) (P ++ [(a, b)]) := by
  obtain ⟨k1, k2, hb⟩ := h
  have hb3 := push_ hb (Nat.le_refl _) k1 hg1
  have k2' := (own_apart (k1.alloc o1) (k2.alloc o1) (by decide)).kept (k2.alloc o1) hg1
  have hb4 := push_ hb3 (Nat.le_refl _) k2' hg2
  have h1' := (own_apart (k2'.alloc o2) (h1.alloc o2) (by decide)).kept (h1.alloc o2) hg2
  refine ⟨?_, ?_, hb4⟩
  · rw [List.length_append, List.map_append]; exact h1'
  · rw [List.length_append, List.map_append]; exact h2
theorem pair_mid {w0 w w3 : World} {v1 v2 : Value} {P : List (Int × Int)} {o1 : Obj} (h : PairW w0 w v1 v2 P) (hg1 : (w.alloc o1).grownBy w3 v1.ownBlock) :
    w3.ownsRow w0.heap.size 109 1 v2 P.length ((P.map Prod.snd).map (Value.int .u64)) ∧ Below w0.heap.size w0 w3 :=
  ⟨(own_apart (h.1.alloc o1) (h.2.1.alloc o1) (by decide)).kept (h.2.1.alloc o1) hg1, push_ h.2.2 (Nat.le_refl _) h.1 hg1⟩
def PairsOut (w : World) (P : List (Int × Int)) (e : Ending) (w' : World) : Prop :=
  ∃ G n c G2 n2 c2, e = .returned (.tuple #[.slice G n c, .slice G2 n2 c2]) ∧ Sl w' .i64 G n c (P.map Prod.fst) ∧ Sl w' .u64 G2 n2 c2 (P.map Prod.snd) ∧ Below w.heap.size w w'

set_option maxRecDepth 100000 in
set_option maxHeartbeats 4000000 in
theorem pairs10_any (w : World) (A : Option Addr) (n cap : Nat) (u : List Int) (hr : Ri w .u64 A n u) (hu : U64 u) (hn : n ≤ 512) (x : Nat) (hx : x < 64) :
    Calls Tryz.prog 95 #[.slice A n cap, .int .i64 x] w (PairsOut w (pairsN u x n).1) := by
  have HR := Lib.hid hr; have HN := Lib.hid hr.len; have HU := Lib.hid hu
  clear hr hu
  go_enter Tryz.func95, Tryz.ntmps95
  go_wp2_with fail
  go_loopw [6, 7, 8, 9] (fun v1 v2 la i wr => ∃ j : Nat, j ≤ n ∧ i = .int .i64 j ∧ la = .int .i64 (pairsN u x j).2 ∧ Hid (PairW w wr v1 v2 (pairsN u x j).1)) (fun _ _ _ i _ => n - (intOf i).toNat)
  case atStart =>
    refine ⟨0, by omega, rfl, rfl, (own_empty w _ 1).alloc _, ?_, ((Below.refl _ _).alloc (Nat.le_refl _) _).alloc (by simp) _⟩
    exact ⟨rfl, .inr ⟨w.heap.size + 1, 0, _, rfl, by omega, Blk.new_ (by simp), Nat.le_refl _, by unfold maxLen; omega, rfl, by simp [pairsN]⟩⟩
  case round =>
    obtain ⟨j, hj, rfl, rfl, hpw⟩ := hrel
    by_cases hlt : j < n
    · obtain ⟨b, o, rfl, hbl, hcell⟩ := HR.out.at_ hlt
      have hc := (hpw.out.2.2.cell (p := ⟨b, o + j, none⟩) hbl).trans hcell
      have hy := HU.out _ (getD_mem u j (by rw [HN.out]; exact hlt))
      have hs1 := pairsN_zero u x j
      have hs2 := pairsN_some u x j
      have hlst := pairsN_last u x j
      have hpl := pairsN_len u x j (by omega)
      obtain ⟨y, hY⟩ : ∃ y, y = u.getD j 0 := ⟨_, rfl⟩
      rw [← hY] at hc hy hs1 hs2
      have HS1 := Lib.hid hs1; have HS2 := Lib.hid hs2; have HC := Lib.hid hcell
      obtain ⟨P, hP0⟩ : ∃ P, P = (pairsN u x j).1 := ⟨_, rfl⟩
      obtain ⟨la, hl0⟩ : ∃ P, P = (pairsN u x j).2 := ⟨_, rfl⟩
      have hpw2 := hpw.out
      rw [← hP0] at hpl hpw2
      rw [← hl0] at hlst ⊢
      have HP0 := Lib.hid hP0; have HL0 := Lib.hid hl0; have HPW := Lib.hid hpw2
      clear hs1 hs2 hcell hY hP0 hl0 hpw2
      have hdiv := div_range y x hy
      by_cases hz : y / 2 ^ x = 0
      · have hs := HS1.out hz
        have HS := Lib.hid hs
        have hzb : (y / 2 ^ x == 0) = true := by simp [hz]
        clear hs
        go_wp2_with fail
        go_roundw
        case rel =>
          refine ⟨j + 1, by omega, by go_num, by rw [HS.out, HL0.out], ?_⟩
          have h := HPW.out
          rw [HP0.out, ← HS.out] at h
          exact h
        case measure => simp [intOf] <;> omega
      · have hs := HS2.out hz
        have HS := Lib.hid hs
        have hzb : (y / 2 ^ x == 0) = false := by simp [hz]
        clear hs
        go_wp2_with fail
        go_loopw [6, 7, 8] (fun v1 v2 la2 wr2 => ∃ (P2 : List (Int × Int)) (l2 : Nat), l2 ≤ j ∧ la2 = .int .i64 l2 ∧ Hid (PairW w wr2 v1 v2 P2) ∧ Hid (gapsAt P2 l2 j (y / 2 ^ x) = gapsAt P la j (y / 2 ^ x))) (fun _ _ la2 _ => j - (intOf la2).toNat)
        case atStart => exact ⟨P, la, hlst, rfl, HPW, rfl⟩
        case round =>
          obtain ⟨P2, l2, hl2, rfl, hpw3, hgap⟩ := hrel
          have hlen2 : P2.length ≤ 3 * j + 3 := by
            have e := congrArg List.length hgap.out
            rw [gapsAt_len, gapsAt_len] at e
            omega
          have hsz := hpw3.out.2.2.size
          have hk1 := hpw3.out.1
          have HK1 := Lib.hid hk1
          clear hk1
          by_cases hfar : 255 < j - l2
          · have hgf := gapsAt_far P2 l2 j (y / 2 ^ x) hfar
            have HGF := Lib.hid hgf
            clear hgf
            go_wp2_with (first
              | (at_builtin; refine wpList_i64 _ rfl _ _ rfl w.heap.size _ P2.length _ rfl (HK1.out.alloc _) _ 1 1 [_] rfl (ri_one_atp rfl) (by omega) (by simp <;> omega) ?_; intro G1 c1 w3 hown3 hgr3 hcc3; have hmid := pair_mid hpw3.out hgr3; have HM := Lib.hid hmid.1; have hsz3 := hmid.2.size; clear hmid)
              | (at_builtin; refine wpList_u64 _ rfl _ _ rfl w.heap.size _ P2.length _ rfl (HM.out.alloc _) _ 1 1 [_] rfl (ri_one_atp rfl) (by omega) (by simp <;> omega) ?_; intro G2 c2 w4 hown4 hgr4 hcc4))
            have HPU := Lib.hid (pair_push hpw3.out hown3 hgr3 hown4 hgr4)
            clear hown3 hgr3 hown4 hgr4 HM
            go_wp2_with fail
            go_roundw
            case rel => exact ⟨_, l2 + 255, by omega, by go_num, HPU, Lib.hid (HGF.out.trans hgap.out)⟩
            case measure => simp [intOf] <;> omega
          · have hgn := gapsAt_near P2 l2 j (y / 2 ^ x) (by omega)
            have HGN := Lib.hid hgn
            clear hgn
            go_wp2_with (first
              | (at_builtin; refine wpList_i64 _ rfl _ _ rfl w.heap.size _ P2.length _ rfl (HK1.out.alloc _) _ 1 1 [_] rfl (ri_one_atp rfl) (by omega) (by simp <;> omega) ?_; intro G1 c1 w3 hown3 hgr3 hcc3; have hmid := pair_mid hpw3.out hgr3; have HM := Lib.hid hmid.1; have hsz3 := hmid.2.size; clear hmid)
              | (at_builtin; refine wpList_u64 _ rfl _ _ rfl w.heap.size _ P2.length _ rfl (HM.out.alloc _) _ 1 1 [_] rfl (ri_one_atp rfl) (by omega) (by simp <;> omega) ?_; intro G2 c2 w4 hown4 hgr4 hcc4))
            have hpu := pair_push hpw3.out hown3 hgr3 hown4 hgr4
            rw [show (j : Int) - (l2 : Int) = ((j - l2 : Nat) : Int) from by omega, ← HGN.out, hgap.out] at hpu
            have HPU := Lib.hid hpu
            clear hown3 hgr3 hown4 hgr4 HM hpu
            go_wp2_with fail
            go_roundw
            case rel =>
              refine ⟨j + 1, by omega, by go_num, by rw [HS.out], ?_⟩
              have h := HPU.out
              rw [HP0.out, HL0.out] at h
              rw [HS.out]
              exact h
            case measure => simp [intOf] <;> omega
    · obtain rfl : j = n := by omega
      obtain ⟨h1, h2, hb⟩ := hpw.out
      obtain ⟨G1, c1, rfl⟩ := own_form h1
      obtain ⟨G2, c2, rfl⟩ := own_form h2
      have HS1 := Lib.hid (Sl.of_own h1); have HS2 := Lib.hid (Sl.of_own h2); have HB := Lib.hid hb
      clear h1 h2 hb hpw
      go_wp2_with fail
      go_returns
      exact ⟨_, _, _, _, _, _, rfl, HS1.out, HS2.out, HB.out⟩
end Go.Proofs.YtmejoococajikaaGreat

/- slices.Repeat of one element of type int. -/
namespace Go.Proofs.YtmejoococajikaaGreat
open Go.RowKit

def RepWI (w0 wr : World) (M q : Nat) (c : Int) : Prop :=
  ∃ cur : List Value, wr.heap[w0.heap.size]? = some (.cells cur.toArray 3 (0, 0)) ∧ cur.length = M ∧ (∀ j, j < q → cur[j]? = some (.int .i64 c)) ∧ Below w0.heap.size w0 wr
theorem RepWI.ri {w0 wr : World} {M n : Nat} {c : Int} (h : RepWI w0 wr M n c) (cap : Nat) (hn : n ≤ cap ∧ cap ≤ 9223372036854775807) : Sl wr .i64 (some ⟨w0.heap.size, 0, none⟩) n cap (List.replicate n c) := by
  obtain ⟨cur, h1, h2, h3, h4⟩ := h
  refine ⟨⟨by simp, fun _ => ⟨_, 0, rfl, (Array.getElem?_eq_some_iff.1 h1).1, fun j u hu => ?_⟩⟩, hn⟩
  rw [List.map_replicate, List.getElem?_replicate] at hu
  split at hu
  · have h5 := h3 j (by omega)
    have h6 := cell_of_row wr w0.heap.size j cur.toArray _ _ h1
    rw [Nat.zero_add, h6]
    simpa [h5] using hu
  · cases hu
theorem RepWI_src {wr : World} {g q m : Nat} {t : TypeId} {cur : List Value} {c : Int} (h1 : wr.heap[g]? = some (.cells cur.toArray t (0, 0))) (h3 : ∀ j, j < q → cur[j]? = some (.int .i64 c)) (hm : m ≤ q) :
    ∀ j v, (List.replicate m (Value.int .i64 c))[j]? = some v → wr.drew.cell? ((⟨g, 0, none⟩ : Addr).add j) = some v := by
  intro j v hv
  rw [List.getElem?_replicate] at hv
  split at hv
  · rw [add_none, Nat.zero_add]
    have h6 := cell_of_row wr g j cur.toArray _ _ h1
    have h5 := h3 j (by omega)
    show wr.cell? _ = _
    rw [h6]
    simpa [h5] using hv
  · cases hv
theorem one_repI (m : Nat) (c : Int) : ∀ v ∈ List.replicate m (Value.int .i64 c), v.oneCell' = true := by
  intro v hv
  rw [List.eq_of_mem_replicate hv]; rfl
def RepOutI (w : World) (l : List Int) (e : Ending) (w' : World) : Prop :=
  ∃ G n c, e = .returned (.slice G n c) ∧ Sl w' .i64 G n c l ∧ Below w.heap.size w w'

set_option maxRecDepth 100000 in
set_option maxHeartbeats 1000000 in
theorem RepeatI_any (w : World) (A : Option Addr) (cap : Nat) (c : Int) (hr : Ri w .i64 A 1 [c]) (n : Nat) (h1 : 1 ≤ n) (hn : n ≤ 100000) :
    Calls Tryz.prog 139 #[.slice A 1 cap, .int .i64 n] w (RepOutI w (List.replicate n c)) := by
  have HR := Lib.hid hr; clear hr
  have hmk := fun W => Go.run_make_row' (P := Tryz.prog) 46 3 (.int .i64 0) 8 Tryz.underlying46 info_int rfl .i64 .i64 n (by omega) (by omega) W
  go_enter Tryz.func139, Tryz.ntmps139
  go_wp2_with fail
  refine (Mul_one _ (by omega) _).mono ?_; rintro e w' ⟨rfl, rfl⟩
  obtain ⟨b, o, hA, hb, hcell⟩ := HR.out.all (by omega)
  subst hA
  have hcell0 := hcell 0 (by omega)
  rw [Nat.add_zero] at hcell0
  have hbe : b ≠ w.heap.size := by omega
  go_wp2_with (with_reducible refine wpList_copy_splice rfl (.tmp 31) (.tmp 32) 46 46 rfl 3 Tryz.underlying46 (by kernel_rfl) (some ⟨w.heap.size, 0, none⟩) (some ⟨b, o, none⟩) n n 1 cap rfl rfl w.heap.size 0 (madeCells #[.int .i64 0] n).toList 3 ?c1 [(.int .i64 c)] ?c2 ?c3 ?c4 ?c5 w.heap.size w ?c6 (Nat.le_refl _) ?_)
  case c1 => rw [heap_alloc_new]
  case c2 => exact (Nat.min_eq_left h1).symm
  case c3 =>
    intro j v hv
    have hj : j = 0 := by
      rcases Nat.eq_zero_or_pos j with h | h
      · exact h
      · rw [List.getElem?_eq_none (by simp; omega)] at hv; cases hv
    subst hj
    simp at hv
    subst hv
    exact hcell0
  case c4 => simp [size_madeCells]; omega
  case c5 => simp [Value.oneCell']
  case c6 => exact (Below.refl _ _).alloc (Nat.le_refl _) _
  intro w1 hg1 hb1
  have hrw : Hid (RepWI w w1 n 1 c) := by
    refine ⟨_, hg1, by rw [length_splice _ _ _ (by simp [size_madeCells]; omega)]; simp [size_madeCells], fun j hj => ?_, hb1⟩
    exact splice_get (q := 0) (m := 1) (by simp [size_madeCells]; omega) (fun j hj => absurd hj (by omega)) j (by omega)
  clear hcell hcell0 hg1 hb1 hmk
  go_wp2_with fail
  go_loopw [8] (fun bp wr => ∃ q : Nat, 1 ≤ q ∧ q ≤ n ∧ bp = .int .i64 q ∧ Hid (RepWI w wr n q c)) (fun bp _ => n - (intOf bp).toNat)
  case atStart => exact ⟨1, by omega, h1, rfl, hrw⟩
  case round =>
    obtain ⟨q, hq1, hq2, rfl, hrq⟩ := hrel
    by_cases hlt : q < n
    · obtain ⟨cur, k1, k2, k3, k4⟩ := hrq.out
      have K1 := Lib.hid k1; have K3 := Lib.hid k3; have K4 := Lib.hid k4
      obtain ⟨m, hm⟩ : ∃ m, m = Nat.min q (n - q) := ⟨_, rfl⟩
      have hm1 : 1 ≤ m := by rw [hm]; exact Nat.le_min.2 ⟨hq1, by omega⟩
      have hm2 : m ≤ n - q := by rw [hm]; exact Nat.min_le_right _ _
      have hm3 : m ≤ q := by rw [hm]; exact Nat.min_le_left _ _
      have HM := Lib.hid hm
      clear k1 k3 k4 hm
      have hnq : ¬ n = q := by omega
      have K1d : Hid (wr.drew.heap[w.heap.size]? = some (.cells cur.toArray 3 (0, 0))) := K1
      have K4d : Hid (Below w.heap.size w wr.drew) := K4.out.drew
      have hsz1 : (Tryz.prog.info? 3).map (·.size) = some 1 := by kernel_rfl
      have HSZ := Lib.hid hsz1; clear hsz1
      have hfit : q + (List.replicate m (Value.int .i64 c)).length ≤ cur.length := by rw [List.length_replicate]; omega
      have HSUM : Hid (IntKind.i64.wrap ((q : Int) + m) = ((q + m : Nat) : Int)) := (IntWalk.i64_in _ (by omega)).trans (by omega)
      have hq0 : (0 : Int) ≤ (q : Int) := by omega
      have hqn : (q : Int) ≤ (n : Int) := by omega
      go_wp2_with fail
      have hsum := HSUM.out
      go_region_law (with_reducible refine step_copy_splice rfl (.tmp 41) (.tmp 44) 46 46 rfl 3 Tryz.underlying46 HSZ.out (some ⟨w.heap.size, q, none⟩) (some ⟨w.heap.size, 0, none⟩) (n - q) (n - q) q n (by kernel_rfl) (by kernel_rfl) w.heap.size q cur 3 K1d.out (List.replicate m (.int .i64 c)) (by rw [List.length_replicate]; exact HM.out) (fun _ => ⟨rfl, _, rfl, RepWI_src K1.out K3.out hm3⟩) hfit (one_repI m c) w.heap.size w K4d.out (Nat.le_refl _) ?_; intro w4 hg4 hb4; have HG4 := Lib.hid hg4.out; have HB4 := Lib.hid hb4; clear hg4 hb4; rw [List.length_replicate])
      clear hsum
      simp only [List.getElem_toArray, List.getElem_cons_succ, List.getElem_cons_zero, Act.put, List.setIfInBounds_toArray, List.set_cons_succ, List.set_cons_zero]
      go_wp2_with fail
      go_roundw
      case rel => 
        refine ⟨q + m, by omega, by omega, by go_num, ?_⟩
        exact ⟨_, HG4.out, by rw [length_splice _ _ _ (by rw [List.length_replicate]; omega)]; exact k2, fun j hj => splice_get (by omega) K3.out j hj, HB4.out⟩
      case measure => simp [intOf] <;> omega
    · obtain rfl : q = n := by omega
      go_wp2_with fail
      go_ret
      obtain ⟨h1', h2'⟩ := hrq.out.ri q ⟨Nat.le_refl _, by omega⟩
      exact ⟨_, _, _, rfl, ⟨h1', h2'⟩, hrq.out.choose_spec.2.2.2⟩

set_option maxRecDepth 100000 in
set_option maxHeartbeats 400000 in
theorem RepeatI_none (w : World) (A : Option Addr) (cap : Nat) (c : Int) (hr : Ri w .i64 A 1 [c]) :
    Calls Tryz.prog 139 #[.slice A 1 cap, .int .i64 0] w (RepOutI w []) := by
  have HR := Lib.hid hr; clear hr
  have hmk := Go.run_make_row' (P := Tryz.prog) 46 3 (.int .i64 0) 8 Tryz.underlying46 info_int rfl .i64 .i64 0 (by omega) (by omega) w
  rw [show ((0 : Nat) : Int) = 0 from rfl] at hmk
  go_enter Tryz.func139, Tryz.ntmps139
  go_wp2_with fail
  refine (Mul_one 0 (by omega) _).mono ?_; rintro e w' ⟨rfl, rfl⟩
  obtain ⟨b, o, hA, hb, hcell⟩ := HR.out.all (by omega)
  subst hA
  go_wp2_with (with_reducible refine wpList_copy_splice rfl (.tmp 31) (.tmp 32) 46 46 rfl 3 Tryz.underlying46 (by kernel_rfl) (some ⟨w.heap.size, 0, none⟩) (some ⟨b, o, none⟩) 0 0 1 cap rfl rfl w.heap.size 0 (madeCells #[.int .i64 0] 0).toList 3 ?c1 [] ?c2 ?c3 ?c4 ?c5 w.heap.size w ?c6 (Nat.le_refl _) ?_)
  case c1 => rw [heap_alloc_new]
  case c2 => rfl
  case c4 => simp [size_madeCells]
  case c5 => simp
  case c6 => exact (Below.refl _ _).alloc (Nat.le_refl _) _
  intro w1 hg1 hb1
  clear hcell hmk
  go_wp2_with fail
  go_loopw [8] (fun bp wr => bp = .int .i64 0 ∧ wr = w1) (fun bp _ => 0)
  case atStart => exact ⟨rfl, rfl⟩
  case round =>
    obtain ⟨rfl, rfl⟩ := hrel
    go_wp2_with fail
    go_ret
    exact ⟨_, _, _, rfl, ⟨⟨rfl, fun h => absurd h (by omega)⟩, Nat.le_refl _, by omega⟩, hb1⟩
end Go.Proofs.YtmejoococajikaaGreat

/- Joined texts: NulS. Each has its own head line. No condition beyond those that its theorems state. -/
import Derived.Test.YtlmfdmaoakckgaaJ17
set_option linter.unusedVariables false

/- nulls.Split and its reference. -/
namespace Go.Proofs.Ytlmfdmaoakckgaa
open Go.RowKit

theorem Sv.of_own {w : World} {A : Option Addr} {n c : Nat} {l : List Val} {base : Nat} {e : TypeId} (h : w.ownsRow base e 3 (.slice A n c) n (cellsV l)) : Sv w A n c l := ⟨Rv.of_own h, own_cap h⟩
def presB (l : List Val) : List Bool := l.map fun v => !v.null
theorem presB_len (l : List Val) : (presB l).length = l.length := by simp [presB]
theorem presB_snoc (l : List Val) (j : Nat) (v : Val) (h : l[j]? = some v) : presB (l.take (j + 1)) = presB (l.take j) ++ [!v.null] := by
  unfold presB
  rw [List.take_add_one, h, Option.toList_some, List.map_append]; rfl
/-- Truths and values are handed back. -/
def SplitOut (w : World) (p : List Bool) (s : List Val) (e : Ending) (w' : World) : Prop :=
  ∃ G n c G2 n2 c2, e = .returned (.tuple #[.slice G n c, .slice G2 n2 c2]) ∧ Sb w' G n c p ∧ Sv w' G2 n2 c2 s ∧ Below w.heap.size w w'

set_option maxRecDepth 100000 in
set_option maxHeartbeats 1000000 in
theorem Split_any (w : World) (A : Option Addr) (n cap : Nat) (l : List Val) (hr : Rv w A n l) (hn : n ≤ 1000000) :
    Calls Try.prog 15 #[.slice A n cap] w (SplitOut w (presB l) (someV l)) := by
  have HR := Lib.hid hr; have HN := Lib.hid hr.len
  clear hr
  go_enter Try.func15, Try.ntmps15
  go_wp2_with fail
  refine (CloneV_any _ _ _ l _ HR.out hn).mono ?_; rintro e w1 ⟨G, m, c, rfl, ho, hb1⟩
  have hm : m ≤ 1000000 := by have := (Rv.of_own ho.out).len; have := HN.out; omega
  have HB1 := Lib.hid hb1
  have hz := hb1.size
  clear hb1
  go_wp2_with fail
  refine (DeleteV_any _ w.heap.size hz _ _ _ l ho.out hm).mono ?_; rintro e w2 ⟨m2, c2, rfl, ho2, hb2⟩
  have HB2 := Lib.hid (HB1.out.trans hb2); have HO2 := Lib.hid ho2
  clear hb2 ho2
  go_wp2_with fail
  refine (eachIs_any _ _ _ _ l (HR.out.below HB2.out) hn).mono ?_; rintro e w3 ⟨G3, n3, c3, rfl, hs3, hb3⟩
  have HS3 := Lib.hid hs3; have HO3 := Lib.hid (own_below HO2.out hb3); have HB3 := Lib.hid (on HB2.out hb3)
  clear hs3 hb3
  go_wp2_with fail
  go_ret2
  exact ⟨_, _, _, _, _, _, rfl, HS3.out, Sv.of_own HO3.out, HB3.out⟩

/-- Rows of other element types do not lie in one block. -/
theorem own_apartV {w : World} {B B2 n m s1 s2 : Nat} {e t : TypeId} {v u : Value} {xs ys : List Value} (h : w.ownsRow B e s1 v n xs) (h2 : w.ownsRow B2 t s2 u m ys) (hne : e ≠ t) : Apart v u := by
  have key : ∀ {B n s : Nat} {e : TypeId} {v : Value} {xs : List Value}, w.ownsRow B e s v n xs → ∀ g, v.ownBlock = some g → ∃ cur, Blk w g e cur := by
    intro B n s e v xs h g hg
    rcases h.2 with ⟨rfl, _⟩ | ⟨g', cap, cur, rfl, _, h2, _⟩
    · simp [Value.ownBlock] at hg
    · simp [Value.ownBlock] at hg
      subst hg
      exact ⟨cur, h2⟩
  intro g h3 h4
  obtain ⟨c1, k1⟩ := key h g h3
  obtain ⟨c2, k2⟩ := key h2 g h4
  unfold Blk at k1 k2
  rw [k1] at k2
  injection k2 with k2
  injection k2 with _ k2
  exact hne k2
/-- The two rows while values are parted. -/
def PartW (w0 w : World) (v1 v2 : Value) (p : List Bool) (s : List Val) : Prop :=
  w.ownsRow w0.heap.size 4 1 v1 p.length (p.map Value.bool) ∧ w.ownsRow w0.heap.size 42 3 v2 s.length (cellsV s) ∧ Below w0.heap.size w0 w
theorem PartW.one {w0 w w3 : World} {v1 v2 V : Value} {p : List Bool} {s : List Val} {x : Bool} {o : Obj} (h : PartW w0 w v1 v2 p s)
    (h1 : w3.ownsRow w0.heap.size 4 1 V (p.length + 1) ((p ++ [x]).map Value.bool)) (hg : (w.alloc o).grownBy w3 v1.ownBlock) : PartW w0 w3 V v2 (p ++ [x]) s := by
  obtain ⟨k1, k2, hb⟩ := h
  refine ⟨by rw [List.length_append]; exact h1, (own_apartV (k1.alloc o) (k2.alloc o) (by decide)).kept (k2.alloc o) hg, push_ hb (Nat.le_refl _) k1 hg⟩
theorem PartW.two {w0 w w3 : World} {v1 v2 V : Value} {p : List Bool} {s : List Val} {x : Val} {o : Obj} (h : PartW w0 w v1 v2 p s)
    (h1 : w3.ownsRow w0.heap.size 42 3 V (s.length + 1) (cellsV (s ++ [x]))) (hg : (w.alloc o).grownBy w3 v2.ownBlock) : PartW w0 w3 v1 V p (s ++ [x]) := by
  obtain ⟨k1, k2, hb⟩ := h
  refine ⟨(own_apartV (k2.alloc o) (k1.alloc o) (by decide)).kept (k1.alloc o) hg, by rw [List.length_append]; exact h1, push_ hb (Nat.le_refl _) k2 hg⟩
theorem blk_atV {w : World} {t : TypeId} {cs : Array Value} {g : Nat} (h : g = w.heap.size) : Blk (w.alloc (.cells cs t)) g t cs := by subst h; exact Blk.new _ _ _
theorem part_start (w : World) : PartW w ((w.alloc (.cells #[] 4)).alloc (.cells #[] 42)) (.slice (some ⟨w.heap.size, 0, none⟩) 0 0) (.slice (some ⟨w.heap.size + 1, 0, none⟩) 0 0) [] [] := by
  have h1 := own_empty w 4 1
  refine ⟨own_below h1 ((Below.refl (w.alloc (.cells #[] 4)).heap.size _).alloc (Nat.le_refl _) _), ?_, ((Below.refl _ _).alloc (Nat.le_refl _) _).alloc (by simp) _⟩
  exact ⟨rfl, .inr ⟨w.heap.size + 1, 0, _, rfl, by omega, blk_atV (by simp), Nat.le_refl _, by unfold maxLen; omega, rfl, by simp [cellsV]⟩⟩
theorem rb_one_at {w : World} {x : Bool} {t : TypeId} {g : Nat} (h : g = w.heap.size) : Rb (w.alloc (.cells #[.bool x] t)) (some ⟨g, 0, none⟩) 1 [x] := by subst h; exact Rd.one _ _ _
theorem rv_one_at {w : World} {x : Val} {t : TypeId} {g : Nat} (h : g = w.heap.size) : Rv (w.alloc (.cells #[.bool x.null, .int .i64 x.n, .string x.s] t)) (some ⟨g, 0, none⟩) 1 [x] := by
  subst h
  refine ⟨by simp [cellsV, Val.cells], fun _ => ⟨w.heap.size, 0, rfl, by simp, fun j u hu => ?_⟩⟩
  rw [Nat.zero_add, (Blk.new w t _).cell]
  simpa [cellsV, Val.cells] using hu

set_option maxRecDepth 100000 in
set_option maxHeartbeats 1000000 in
theorem refSplit_any (w : World) (A : Option Addr) (n cap : Nat) (l : List Val) (hr : Rv w A n l) (hn : n ≤ 1000000) :
    Calls Try.prog 16 #[.slice A n cap] w (SplitOut w (presB l) (someV l)) := by
  have HR := Lib.hid hr; have HN := Lib.hid hr.len
  clear hr
  go_enter Try.func16, Try.ntmps16
  go_wp2_with fail
  have HS := Lib.hid (part_start w)
  go_loopw [4, 5, 6] (fun v1 v2 i wr => ∃ j : Nat, j ≤ n ∧ i = .int .i64 j ∧ Hid (PartW w wr v1 v2 (presB (l.take j)) (someV (l.take j)))) (fun _ _ i _ => n - (intOf i).toNat)
  case atStart => exact ⟨0, by omega, rfl, HS⟩
  case round =>
    obtain ⟨j, hj, rfl, hp⟩ := hrel
    have hz := hp.out.2.2.size
    by_cases hlt : j < n
    · obtain ⟨b, o, v, hA, hbl, hv, h1, h2, h3⟩ := HR.out.at_ hlt
      subst hA
      have hb := hp.out.2.2
      have g1 := (hb.cell (p := ⟨b, o + j * 3, none⟩) hbl).trans h1
      have HE1 := Lib.hid (presB_snoc l j v hv); have HE2 := Lib.hid (someV_snoc l j v hv)
      have hpl : (presB (l.take j)).length ≤ n := by rw [presB_len, List.length_take]; omega
      have hsl : (someV (l.take j)).length ≤ n := by
        have := List.length_filter_le (fun v : Val => !v.null) (l.take j)
        rw [List.length_take] at this
        unfold someV; omega
      have HC := Lib.hid (And.intro h1 (And.intro h2 h3))
      clear hb h1 h2 h3 hv
      generalize presB (l.take j) = P at *
      generalize someV (l.take j) = S at *
      cases hvn : v.null
      · have HVN := Lib.hid hvn
        rw [hvn] at g1 HE1 HE2
        clear hvn
        have HP1 := Lib.hid hp.out.1
        go_wp2_with (first
          | (at_builtin; refine wpList_bool _ rfl (.tmp 15) (.tmp 22) rfl w.heap.size _ P.length P rfl (own_below HP1.out ((Below.refl _ _).alloc (Nat.le_refl _) _)) _ 1 1 [_] rfl (rb_one_at rfl) (by omega) (by simp; omega) ?_; intro G c w3 hown hgr hcc; have HP3 := Lib.hid (PartW.one hp.out hown hgr); clear hown hgr; have c1 := ((HP3.out.2.2).cell (p := ⟨b, o + j * 3, none⟩) hbl).trans HC.out.1; have c2 := ((HP3.out.2.2).cell (p := ⟨b, o + j * 3 + 1, none⟩) hbl).trans HC.out.2.1; have c3 := ((HP3.out.2.2).cell (p := ⟨b, o + j * 3 + 2, none⟩) hbl).trans HC.out.2.2; rw [HVN.out] at c1; have hz3 := HP3.out.2.2.size; have HP32 := Lib.hid HP3.out.2.1)
          | (at_builtin; refine wpList_val _ rfl (.tmp 30) (.tmp 35) rfl w.heap.size _ S.length S rfl (own_below HP32.out ((Below.refl _ _).alloc (Nat.le_refl _) _)) _ 1 1 [⟨false, v.n, v.s⟩] rfl (rv_one_at rfl) (by omega) (by simp; omega) ?_; intro G4 c4 w4 hown hgr hcc4; have HP4 := Lib.hid (PartW.two HP3.out hown hgr); clear hown hgr))
        go_wp2_with fail
        go_roundw
        case rel =>
          refine ⟨j + 1, by omega, by go_num, ?_⟩
          have h := HP4.out
          have e : (⟨false, v.n, v.s⟩ : Val) = v := by rw [← HVN.out]
          rw [e] at h
          rw [HE1.out, HE2.out]
          exact Lib.hid h
        case measure => simp [intOf] <;> omega
      · rw [hvn] at g1 HE1 HE2
        have HVN := Lib.hid hvn
        clear hvn
        have HP1 := Lib.hid hp.out.1
        go_wp2_with (at_builtin; refine wpList_bool _ rfl (.tmp 15) (.tmp 22) rfl w.heap.size _ P.length P rfl (own_below HP1.out ((Below.refl _ _).alloc (Nat.le_refl _) _)) _ 1 1 [_] rfl (rb_one_at rfl) (by omega) (by simp; omega) ?_; intro G c w3 hown hgr hcc; have HP3 := Lib.hid (PartW.one hp.out hown hgr); clear hown hgr; have c1 := ((HP3.out.2.2).cell (p := ⟨b, o + j * 3, none⟩) hbl).trans HC.out.1; rw [HVN.out] at c1)
        go_wp2_with fail
        go_roundw
        case rel =>
          refine ⟨j + 1, by omega, by go_num, ?_⟩
          rw [HE1.out, HE2.out, if_pos rfl, List.append_nil]
          exact HP3
        case measure => simp [intOf] <;> omega
    · obtain rfl : j = n := by omega
      obtain ⟨k1, k2, hb⟩ := hp.out
      rw [List.take_of_length_le (by rw [HN.out]; omega)] at k1 k2
      obtain ⟨G1, c1, rfl⟩ := own_form k1
      obtain ⟨G2, c2, rfl⟩ := own_form k2
      have K1 := Lib.hid (Sb.of_own k1); have K2 := Lib.hid (Sv.of_own k2)
      clear k1 k2
      go_wp2_with fail
      go_ret2
      exact ⟨_, _, _, _, _, _, rfl, K1.out, K2.out, hb⟩
end Go.Proofs.Ytlmfdmaoakckgaa

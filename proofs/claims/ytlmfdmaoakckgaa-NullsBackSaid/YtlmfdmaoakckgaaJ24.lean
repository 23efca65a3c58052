/- Joined texts: ByT. Each has its own head line. No condition beyond those that its theorems state. -/
import Derived.Test.YtlmfdmaoakckgaaJ21
import Derived.Test.YtlmfdmaoakckgaaJ02
import Derived.Test.YtlmfdmaoakckgaaJ23
set_option linter.unusedVariables false

/- byterle.Take. -/
namespace Go.Proofs.Ytlmfdmaoakckgaa
open Go.RowKit

/-- Two rows of bytes and an error's number are handed back. -/
def BytesTwo (w : World) (l1 l2 : List Int) (er : Int) (e : Ending) (w' : World) : Prop :=
  ∃ G n c G2 n2 c2, e = .returned (.tuple #[.slice G n c, .slice G2 n2 c2, .int .i64 er]) ∧ Sl w' .u8 G n c l1 ∧ Sl w' .u8 G2 n2 c2 l2 ∧ Below w.heap.size w w'
theorem BytesTwo.nil {w w' : World} {er : Int} (h : Below w.heap.size w w') : BytesTwo w [] [] er (.returned (.tuple #[.slice none 0 0, .slice none 0 0, .int .i64 er])) w' :=
  ⟨none, 0, 0, none, 0, 0, rfl, Sl.nil _ _, Sl.nil _ _, h⟩
theorem tuck {p : Prop} (h : p) : Hid p := h
theorem untuck {p : Prop} (h : Hid p) : p := h
def lenV : Value → Nat
  | .slice _ n _ => n
  | _ => 0
theorem Ri.mid {w : World} {k : IntKind} {n : Nat} {l : List Int} {b o : Nat} (h : Ri w k (some ⟨b, o, none⟩) n l) {i m : Nat} (hm : i + m ≤ n) : Ri w k (some ⟨b, o + i, none⟩) m ((l.drop i).take m) := by
  have h1 := h.rest (i := i) (by omega) (fun _ => rfl)
  exact h1.first (by omega)
theorem getD_one (l : List Int) (i : Nat) (h : i < l.length) : (l.drop i).take 1 = [l.getD i 0] := by
  rw [List.drop_eq_getElem_cons h, List.take_succ_cons, List.take_zero]; simp [List.getD, List.getElem?_eq_getElem h]
theorem getD_u8 {l : List Int} (h : U8 l) (i : Nat) : 0 ≤ l.getD i 0 ∧ l.getD i 0 < 256 := by
  rcases Nat.lt_or_ge i l.length with h1 | h1
  · exact h _ (by simp [List.getD, List.getElem?_eq_getElem h1])
  · rw [show l.getD i 0 = 0 from by simp [List.getD, List.getElem?_eq_none h1]]; omega

/-- The state while bytes are taken. -/
def TakeW (w wr : World) (M n : Nat) (res : List Int × List Int × Int) (b v : Value) : Prop :=
  ∃ A n' c l' o f, b = .slice A n' c ∧ Ri w .u8 A n' l' ∧ U8 l' ∧ n' ≤ c ∧ c ≤ 9223372036854775807 ∧ n' ≤ n ∧ wr.ownsRow w.heap.size 5 1 v o.length (o.map (Value.int .u8)) ∧ Below w.heap.size w wr ∧ decF f M o l' = res ∧ M < f + o.length ∧ o.length ≤ 5000

set_option maxRecDepth 100000 in
set_option maxHeartbeats 2000000 in
theorem Take5_any (w : World) (A : Option Addr) (n cap : Nat) (l : List Int) (hr : Ri w .u8 A n l) (hu : U8 l) (hc : n ≤ cap) (hm : cap ≤ 9223372036854775807) (hn : n ≤ 1000000) (m : Int) (r1 r2 : List Int) (er : Int) (hp : decR l m = (r1, r2, er)) :
    Calls Try.prog 66 #[.slice A n cap, .int .i64 m] w (BytesTwo w r1 r2 er) := by
  have HR := Lib.hid hr; have HU := Lib.hid hu
  clear hr hu
  unfold decR at hp
  by_cases hbad : m < 0 ∨ 4096 < m
  · rw [if_pos hbad] at hp
    injection hp with e1 e2; injection e2 with e2 e3
    subst e1 e2 e3
    rcases hbad with hbad | hbad
    all_goals
      go_enter Try.func66, Try.ntmps66
      go_wp2_with fail
      refine bodyPost_ret (results_tmp3 rfl _ _ _) rfl ?_
      exact BytesTwo.nil (Below.refl _ _)
  · rw [if_neg hbad] at hp
    obtain ⟨M, rfl⟩ := Int.eq_ofNat_of_zero_le (show 0 ≤ m by omega)
    have hM : M ≤ 4096 := by omega
    rw [Int.toNat_natCast] at hp
    have HP := Lib.hid hp
    clear hp hbad
    go_enter Try.func66, Try.ntmps66
    go_wp2_with fail
    go_loopw [0, 7] (fun b v wr => Hid (TakeW w wr M n (r1, r2, er) b v)) (fun b _ _ => lenV b)
    case atStart => exact ⟨A, n, cap, l, [], M + 1, rfl, HR.out, HU.out, hc, hm, Nat.le_refl _, World.ownsRow_nil _ _ _ _, Below.refl _ _, HP.out, by simp, by simp⟩
    case round =>
      obtain ⟨A1, n1, c1, l1, o, f, rfl, hr1, hu1, hc1, hcm1, hn1, ho, hb, hd, hf, hol⟩ := hrel.out
      obtain ⟨G, gc, rfl⟩ := own_form ho
      have hgc := own_cap ho
      have HR1 := Lib.hid hr1; have HU1 := Lib.hid hu1; have HO := Lib.hid ho; have HB := Lib.hid hb; have HD := Lib.hid hd; have HL1 := Lib.hid hr1.len
      clear hrel hr1 hu1 ho hb hd
      rcases Nat.lt_or_ge o.length M with hlt | hge
      · obtain ⟨f, rfl⟩ : ∃ g, f = g + 1 := ⟨f - 1, by omega⟩
        have hd := HD.out
        simp only [decF] at hd
        rw [if_neg (by omega), HL1.out] at hd
        rcases Nat.lt_or_ge n1 2 with h2 | h2
        · rw [if_pos h2] at hd
          injection hd with e1 e2; injection e2 with e2 e3
          subst e1 e2 e3
          go_wp2_with fail
          refine bodyPost_ret (results_tmp3 rfl _ _ _) rfl ?_
          exact BytesTwo.nil HB.out
        · rw [if_neg (by omega)] at hd
          obtain ⟨b, of, hA, hbl, hcell⟩ := HR1.out.all (by omega)
          subst hA
          have hx0 := getD_u8 HU1.out 0
          obtain ⟨x, hx⟩ : ∃ x : Nat, (x : Int) = l1.getD 0 0 := ⟨(l1.getD 0 0).toNat, by omega⟩
          have g0 := (HB.out.cell (p := ⟨b, of + 0, none⟩) hbl).trans (hcell 0 (by omega))
          rw [← hx] at g0 hx0 hd
          rw [Nat.add_zero] at g0
          rw [Int.toNat_natCast] at hd
          have hc1' : ¬ c1 = 1 := by omega
          clear hcell hx HD
          rcases Nat.lt_or_ge x 128 with h128 | h128
          · rw [if_pos (by omega)] at hd
            have HD := Lib.hid hd; clear hd
            have HY := Lib.hid ((HR1.out.mid (i := 1) (m := 1) (by omega)).below HB.out)
            rw [getD_one l1 1 (by rw [HL1.out]; omega)] at HY
            go_wp2_with fail
            refine (Repeat1_any _ _ _ _ HY.out (x + 3) (by omega) (by omega)).mono ?_; rintro e w2 ⟨G2, n2, c2, rfl, hr2, hb2⟩
            have hn2 : n2 = x + 3 := by have := hr2.1.len; simpa using this.symm
            subst hn2
            have HO2 := Lib.hid (own_below HO.out hb2)
            have HB2 := Lib.hid (on HB.out hb2)
            have HR2 := Lib.hid hr2.1
            have hz2 := HB2.out.size
            clear hr2 hb2
            go_wp2_with (at_builtin; refine wpList_u8 _ rfl _ _ rfl w.heap.size _ o.length o rfl HO2.out _ (x + 3) _ (List.replicate (x + 3) (l1.getD 1 0)) rfl HR2.out (by omega) (by omega) ?_; intro G3 c3 w3 hown hgr hcc)
            have HOWN := Lib.hid hown; have HGR := Lib.hid hgr
            clear hown hgr
            go_wp2_with fail
            refine ⟨⟨_, _, _, _, _, f, rfl, HR1.out.restIf (by omega) hc1, HU1.out.drop 2, by omega, by omega, by omega, ?_, push0 HB2.out (Nat.le_refl _) HO2.out HGR.out, HD.out, by simp only [List.length_append, List.length_replicate]; omega, by simp only [List.length_append, List.length_replicate]; omega⟩, ?_⟩
            · rw [List.length_append, List.length_replicate]; exact HOWN.out
            · show n1 - 2 < n1; omega
          · rw [if_neg (by omega)] at hd
            rcases Nat.lt_or_ge (256 - x) n1 with h256 | h256
            · rw [if_neg (by omega), show 257 - x = 256 - x + 1 from by omega] at hd
              have HD := Lib.hid hd; clear hd
              have HY := Lib.hid ((HR1.out.mid (i := 1) (m := 256 - x) (by omega)).below HB.out)
              go_wp2_with (at_builtin; refine wpList_u8 _ rfl _ _ rfl w.heap.size _ o.length o rfl HO.out _ (256 - x) _ ((l1.drop 1).take (256 - x)) rfl HY.out (by omega) HB.out.size ?_; intro G3 c3 w3 hown hgr hcc)
              have HOWN := Lib.hid hown; have HGR := Lib.hid hgr
              clear hown hgr
              go_wp2_with fail
              have HL := Lib.hid (show ((l1.drop 1).take (256 - x)).length = 256 - x by rw [List.length_take, List.length_drop, HL1.out]; omega)
              refine ⟨⟨_, _, _, _, _, f, rfl, HR1.out.restIf (by omega) hc1, HU1.out.drop _, by omega, by omega, by omega, ?_, push0 HB.out (Nat.le_refl _) HO.out HGR.out, HD.out, by rw [List.length_append, HL.out]; omega, by rw [List.length_append, HL.out]; omega⟩, ?_⟩
              · rw [List.length_append, HL.out]; exact HOWN.out
              · show n1 - (256 - x + 1) < n1; omega
            · rw [if_pos (by omega)] at hd
              injection hd with e1 e2; injection e2 with e2 e3
              subst e1 e2 e3
              go_wp2_with fail
              refine bodyPost_ret (results_tmp3 rfl _ _ _) rfl ?_
              exact BytesTwo.nil HB.out
      · rcases Nat.lt_or_ge M o.length with hgt | hle
        · have hd := HD.out
          rw [decF_over f M o l1 hgt] at hd
          injection hd with e1 e2; injection e2 with e2 e3
          subst e1 e2 e3
          go_wp2_with fail
          refine bodyPost_ret (results_tmp3 rfl _ _ _) rfl ?_
          exact BytesTwo.nil HB.out
        · have hd := HD.out
          rw [decF_done f M o l1 (by omega) hf] at hd
          injection hd with e1 e2; injection e2 with e2 e3
          subst e1 e2 e3
          go_wp2_with fail
          refine (bytesClone_any _ _ _ _ _ (HR1.out.below HB.out) (by omega)).mono ?_; rintro e w2 ⟨G2, n2, c2, rfl, hr2, hb2⟩
          go_wp2_with fail
          refine bodyPost_ret (results_tmp3 rfl _ _ _) rfl ?_
          exact ⟨_, _, _, G2, n2, c2, rfl, (Sl.of_own HO.out).below hb2, hr2, on HB.out hb2⟩
end Go.Proofs.Ytlmfdmaoakckgaa

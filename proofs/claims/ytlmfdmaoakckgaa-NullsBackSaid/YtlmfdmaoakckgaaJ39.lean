/- Joined texts: NulK. Each has its own head line. No condition beyond those that its theorems state. -/
import Derived.Test.YtlmfdmaoakckgaaJ38
set_option linter.unusedVariables false

/- nulls.Join and its reference. -/
namespace Go.Proofs.Ytlmfdmaoakckgaa
open Go.RowKit

def nullV : Val := ⟨true, 0, ⟨#[]⟩⟩
/-- Where a truth is true the next one, else one that is nothing. -/
def fillV : List Bool → List Val → List Val
  | [], _ => []
  | true :: p, v :: s => v :: fillV p s
  | true :: p, [] => nullV :: fillV p []
  | false :: p, s => nullV :: fillV p s
theorem fillV_len (p : List Bool) : ∀ s, (fillV p s).length = p.length := by
  induction p with
  | nil => intro s; rfl
  | cons b p ih =>
    intro s
    cases b
    · simp [fillV, ih]
    · cases s <;> simp [fillV, ih]
theorem countB_cons (b : Bool) (p : List Bool) : countB (b :: p) = (if b then 1 else 0) + countB p := by
  cases b <;> simp [countB]; omega
theorem fillV_snoc (p : List Bool) : ∀ (s : List Val) (b : Bool), fillV (p ++ [b]) s = fillV p s ++ [if b then (s[countB p]?).getD nullV else nullV] := by
  induction p with
  | nil => intro s b; cases b <;> cases s <;> simp [fillV, countB]
  | cons c p ih =>
    intro s b
    cases c
    · simp only [List.cons_append, fillV]; rw [ih, countB_cons]; simp
    · cases s with
      | nil => simp only [List.cons_append, fillV]; rw [ih]; simp
      | cons v s => simp only [List.cons_append, fillV]; rw [ih, countB_cons, Nat.add_comm]; simp
/-- What Join answers. -/
def joinV (p : List Bool) (s : List Val) : List Val × Int :=
  if countB p ≠ s.length ∨ s.any (fun v => v.null) = true then ([], 1) else (fillV p s, 0)
def ValsErr (w : World) (l : List Val) (er : Int) (e : Ending) (w' : World) : Prop :=
  ∃ G n c, e = .returned (.tuple #[.slice G n c, .int .i64 er]) ∧ Sv w' G n c l ∧ Below w.heap.size w w'
/-- The row while it is filled: what is filled so far, behind it what stands for the truths. -/
def midV (p : List Bool) (s : List Val) (i : Nat) : List Val := fillV (p.take i) s ++ (p.drop i).map onV
theorem midV_len (p : List Bool) (s : List Val) (i : Nat) : (midV p s i).length = p.length := by
  unfold midV; rw [List.length_append, fillV_len, List.length_take, List.length_map, List.length_drop]; omega
theorem midV_off (p : List Bool) (s : List Val) (i : Nat) (h : i < p.length) (hx : p.getD i false = false) : midV p s (i + 1) = midV p s i := by
  unfold midV
  rw [takeB_snoc p i h, fillV_snoc, hx, List.append_assoc]
  congr 1
  rw [List.drop_eq_getElem_cons h, List.map_cons]
  have : p[i] = false := by rw [List.getD, List.getElem?_eq_getElem h, Option.getD_some] at hx; exact hx
  rw [this]; rfl
theorem midV_on (p : List Bool) (s : List Val) (i : Nat) (h : i < p.length) (hx : p.getD i false = true) (v : Val) (hv : s[countB (p.take i)]? = some v) : midV p s (i + 1) = (midV p s i).set i v := by
  unfold midV
  have hl : (fillV (p.take i) s).length = i := by rw [fillV_len, List.length_take]; omega
  rw [takeB_snoc p i h, fillV_snoc, hx, hv, List.append_assoc, List.set_append_right _ _ (by omega), hl, Nat.sub_self, List.drop_eq_getElem_cons h, List.map_cons]
  rfl
theorem countB_take (p : List Bool) (i : Nat) (h : i < p.length) : countB (p.take (i + 1)) = countB (p.take i) + if p.getD i false then 1 else 0 := by
  rw [takeB_snoc p i h, countB_snoc]
theorem countB_mono (p : List Bool) (i : Nat) : countB (p.take i) ≤ countB p := by
  have := countB_append (p.take i) (p.drop i)
  rw [List.take_append_drop] at this; omega

set_option maxRecDepth 100000 in
set_option maxHeartbeats 1000000 in
theorem Join_any (w : World) (A B : Option Addr) (n c m d : Nat) (p : List Bool) (s : List Val) (hp : Rb w A n p) (hs : Rv w B m s) (hn : n ≤ 1000000) (hm : m ≤ 1000000) (r : List Val) (er : Int) (hl : joinV p s = (r, er)) :
    Calls Try.prog 17 #[.slice A n c, .slice B m d] w (ValsErr w r er) := by
  have HP := Lib.hid hp; have HS := Lib.hid hs; have HN := Lib.hid hp.len; have HM := Lib.hid hs.len; have HL := Lib.hid hl
  have hcn : countB p ≤ n := by have := countB_le p; have := HN.out; omega
  clear hp hs hl
  by_cases hcm : countB p = m
  · have hb1 : ((countB p : Int) != (m : Int)) = false := by simp [hcm]
    have hb2 : ((countB p : Int) == (m : Int)) = true := by simp [hcm]
    go_enter Try.func17, Try.ntmps17
    go_wp2_with fail
    refine (Count_any _ _ _ _ p HP.out hn).mono ?_; rintro e w' ⟨rfl, rfl⟩
    go_wp2_with fail
    refine (eachIs_any _ _ _ _ s HS.out hm).mono ?_; rintro e w1 ⟨G1, n1, c1, rfl, hs1, hb⟩
    have hn1 : n1 ≤ 1000000 := by have := hs1.1.len; rw [List.length_map] at this; have := HM.out; omega
    have HB := Lib.hid hb
    clear hb
    have hany : (s.map fun v => !v.null).any (fun b => !b) = s.any fun v => v.null := by
      rw [List.any_map]; congr 1; funext v; simp
    cases hr : s.any fun v => v.null
    · rw [hr] at hany
      have HR : Hid (r = fillV p s ∧ er = 0) := by
        have h := HL.out
        unfold joinV at h
        rw [if_neg (by rw [hr, HM.out]; rintro (h | h); exact h hcm; cases h)] at h
        injection h with h1 h2
        exact ⟨h1.symm, h2.symm⟩
      clear hr
      go_wp2_with fail
      refine (containsFalse_any _ _ _ _ _ hs1.1 hn1 false hany).mono ?_; rintro e w' ⟨rfl, rfl⟩
      clear hany hs1
      go_wp2_with fail
      refine (eachOn_any _ _ _ _ p (HP.out.below HB.out) hn).mono ?_; rintro e w2 ⟨G2, n2, c2, rfl, ho2, hb2⟩
      have HB2 := Lib.hid (on HB.out hb2)
      have hn2 : n2 = n := by
        have h1 := (Rv.of_own ho2.out).len
        rw [List.length_map, HN.out] at h1; exact h1.symm
      subst hn2
      have HO2 : Hid (w2.ownsRow w.heap.size 42 3 (.slice G2 n2 c2) n2 (cellsV (midV p s 0))) := by
        have h := ho2.out
        have e : midV p s 0 = p.map onV := by simp [midV, fillV]
        rw [e]
        exact ⟨h.1, h.2.imp id (fun ⟨g, cap, cur, h1, h2, h3⟩ => ⟨g, cap, cur, h1, Nat.le_trans HB.out.size h2, h3⟩)⟩
      clear ho2 hb2
      go_wp2_with fail
      go_loopw [7, 8, 9, 24] (fun at_ _ _ i wr => ∃ j : Nat, j ≤ n2 ∧ i = .int .i64 j ∧ at_ = .int .i64 (countB (p.take j)) ∧ Hid (wr.ownsRow w.heap.size 42 3 (.slice G2 n2 c2) n2 (cellsV (midV p s j))) ∧ Hid (Below w.heap.size w wr)) (fun _ _ _ i _ => n2 - (intOf i).toNat)
      case atStart => exact ⟨0, by omega, rfl, rfl, HO2, HB2⟩
      case round =>
        obtain ⟨j, hj, rfl, rfl, ho, hb⟩ := hrel
        by_cases hlt : j < n2
        · obtain ⟨b, o, hA, hbl, hc⟩ := HP.out.at_ hlt
          subst hA
          have g1 := (hb.out.cell (p := ⟨b, o + j, none⟩) hbl).trans hc
          have hjl : j < p.length := by rw [HN.out]; exact hlt
          have HC := Lib.hid (countB_take p j hjl)
          have HCm := countB_mono p (j + 1)
          clear hc
          obtain ⟨x, hx⟩ : ∃ x, x = p.getD j false := ⟨_, rfl⟩
          have HX := Lib.hid hx
          rw [← hx] at g1 HC
          clear hx
          cases x
          · have HMO := Lib.hid (midV_off p s j hjl HX.out.symm)
            generalize countB (p.take j) = k at *
            go_wp2_with fail
            go_roundw
            case rel => exact ⟨j + 1, by omega, by go_num, by rw [HC.out]; rfl, by rw [HMO.out]; exact ho, hb⟩
            case measure => simp [intOf] <;> omega
          · have hk : countB (p.take j) < m := by rw [HC.out, if_pos rfl] at HCm; omega
            obtain ⟨b2, o2, v, hB, hbl2, hv, h1, h2, h3⟩ := HS.out.at_ hk
            have HMO := Lib.hid (midV_on p s j hjl HX.out.symm v hv)
            subst hB
            have e1 := (hb.out.cell (p := ⟨b2, o2 + countB (p.take j) * 3, none⟩) hbl2).trans h1
            have e2 := (hb.out.cell (p := ⟨b2, o2 + countB (p.take j) * 3 + 1, none⟩) hbl2).trans h2
            have e3 := (hb.out.cell (p := ⟨b2, o2 + countB (p.take j) * 3 + 2, none⟩) hbl2).trans h3
            have hA2 : ∃ g, G2 = some ⟨g, 0, none⟩ ∧ w.heap.size ≤ g := by
              rcases ho.out.2 with ⟨h1, h2⟩ | ⟨g, c2, cur, h1, h2, _⟩
              · omega
              · injection h1 with h1 _; exact ⟨g, h1, h2⟩
            obtain ⟨g, rfl, hg⟩ := hA2
            obtain ⟨u, _, u1, u2, u3, f1, f2, f3⟩ := own_cells3 ho.out hlt
            have HSET := Lib.hid (own_set3 ho.out (i := j) v)
            clear h1 h2 h3 hv
            have hj0 : (0 : Int) ≤ (countB (p.take j) : Int) := by omega
            generalize countB (p.take j) = k at *
            go_wp2_with fail
            go_roundw
            case rel =>
              refine ⟨j + 1, by omega, by go_num, by rw [HC.out]; go_num, by rw [HMO.out]; exact HSET, Lib.hid ?_⟩
              exact ((hb.out.setCell (p := ⟨g, _, none⟩) hg _).setCell (p := ⟨g, _, none⟩) hg _).setCell (p := ⟨g, _, none⟩) hg _
            case measure => simp [intOf] <;> omega
        · obtain rfl : j = n2 := by omega
          have hend : midV p s j = fillV p s := by
            unfold midV
            rw [List.take_of_length_le (by rw [HN.out]; omega), List.drop_of_length_le (by rw [HN.out]; omega)]; simp
          rw [hend] at ho
          have HO := Lib.hid (Sv.of_own ho.out)
          clear ho hend
          go_wp2_with fail
          go_ret2
          obtain ⟨rfl, rfl⟩ := HR.out
          exact ⟨_, _, _, rfl, HO.out, hb.out⟩
    · rw [hr] at hany
      have HR : Hid (r = [] ∧ er = 1) := by
        have h := HL.out
        unfold joinV at h
        rw [if_pos (.inr hr)] at h
        injection h with h1 h2
        exact ⟨h1.symm, h2.symm⟩
      clear hr
      go_wp2_with fail
      refine (containsFalse_any _ _ _ _ _ hs1.1 hn1 true hany).mono ?_; rintro e w' ⟨rfl, rfl⟩
      clear hany hs1
      go_wp2_with fail
      go_ret2
      obtain ⟨rfl, rfl⟩ := HR.out
      exact ⟨_, _, _, rfl, Sv.nil _, HB.out⟩
  · have hb1 : ((countB p : Int) != (m : Int)) = true := by simp; omega
    have HR : Hid (r = [] ∧ er = 1) := by
      have h := HL.out
      unfold joinV at h
      rw [if_pos (.inl (by rw [HM.out]; exact hcm))] at h
      injection h with h1 h2
      exact ⟨h1.symm, h2.symm⟩
    have hb2 : ((countB p : Int) == (m : Int)) = false := by simp; omega
    clear hcm
    go_enter Try.func17, Try.ntmps17
    go_wp2_with fail
    refine (Count_any _ _ _ _ p HP.out hn).mono ?_; rintro e w' ⟨rfl, rfl⟩
    go_wp2_with fail
    go_ret2
    obtain ⟨rfl, rfl⟩ := HR.out
    exact ⟨_, _, _, rfl, Sv.nil _, Below.refl _ _⟩
end Go.Proofs.Ytlmfdmaoakckgaa

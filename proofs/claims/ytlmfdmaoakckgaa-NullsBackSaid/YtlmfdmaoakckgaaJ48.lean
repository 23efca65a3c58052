/- Joined texts: LawN4. Each has its own head line. No condition beyond those that its theorems state. -/
import Derived.Test.YtlmfdmaoakckgaaJ45
import Derived.Test.YtlmfdmaoakckgaaJ44
import Derived.Test.YtlmfdmaoakckgaaJ39
import Derived.Test.YtlmfdmaoakckgaaJ46
import Derived.Test.YtlmfdmaoakckgaaJ36
set_option linter.unusedVariables false

/- The walk through NullsBack. -/
namespace Go.Proofs.Ytlmfdmaoakckgaa
open Go.RowKit

def normV (v : Val) : Val := if v.null then nullV else v
theorem norm_null (v : Val) : (normV v).null = v.null := by
  unfold normV
  split
  · rename_i h; rw [h]; rfl
  · rfl
theorem norm_nothing (v : Val) (h : (normV v).null = true) : normV v = nullV := by
  rw [norm_null] at h
  unfold normV
  rw [if_pos h]
theorem count_pres (l : List Val) : countB (presB l) = (someV l).length := by
  induction l with
  | nil => rfl
  | cons v t ih =>
    have e1 : presB (v :: t) = (!v.null) :: presB t := rfl
    rw [e1, countB_cons, ih]
    unfold someV
    rw [List.filter_cons]
    cases v.null <;> simp; omega
theorem some_null (l : List Val) : (someV l).any (fun v => v.null) = false := by
  rw [List.any_eq_false]
  intro v hv
  have := (List.mem_filter.1 hv).2
  simpa using this
theorem fill_back (l : List Val) (h : ∀ v ∈ l, v.null = true → v = nullV) : fillV (presB l) (someV l) = l := by
  induction l with
  | nil => rfl
  | cons v t ih =>
    have h1 := ih (fun u hu => h u (List.mem_cons_of_mem _ hu))
    have e1 : presB (v :: t) = (!v.null) :: presB t := rfl
    have e2 : someV (v :: t) = if v.null then someV t else v :: someV t := by
      unfold someV; rw [List.filter_cons]; cases v.null <;> rfl
    rw [e1, e2]
    cases hv : v.null
    · simp [fillV, h1]
    · simp [fillV, h1]
      exact (h v List.mem_cons_self hv).symm
theorem join_back (l : List Val) (h : ∀ v ∈ l, v.null = true → v = nullV) : joinV (presB l) (someV l) = (l, 0) := by
  unfold joinV
  rw [if_neg, fill_back l h]
  rintro (h1 | h1)
  · exact h1 (count_pres l)
  · rw [some_null] at h1; cases h1
theorem enc_some (l : List Bool) (h : l.length ≤ 4096) (h0 : 0 < l.length) : 0 < (enc 0 [] (bytesB l)).length := by
  rcases Nat.eq_zero_or_pos (enc 0 [] (bytesB l)).length with h1 | h1
  · have h2 := dec_back (bytesB l) [] (by rw [bytesB_len]; omega)
    rw [List.eq_nil_of_length_eq_zero h1, bytesB_len] at h2
    unfold decR at h2
    rw [if_neg (by omega), Int.toNat_natCast, List.append_nil] at h2
    simp only [decF] at h2
    rw [if_neg (by simp; omega), if_pos (by simp)] at h2
    injection h2 with _ h2
    injection h2 with _ h2
    cases h2
  · exact h1
theorem pres_all (l : List Val) (h : (someV l).length = l.length) : presB l = List.replicate l.length true := by
  have h1 := List.filter_eq_self.1 (List.Sublist.eq_of_length List.filter_sublist h)
  apply List.ext_getElem (by simp [presB])
  intro i h2 h3
  rw [List.getElem_replicate]
  simp only [presB, List.getElem_map]
  exact h1 _ (List.getElem_mem _)
/-- What is laid down, and what is taken of it. -/
theorem null_back (l : List Val) (h : l.length ≤ 4096) : ∃ b, putN l = (b, someV l, 0) ∧ U8 b ∧ b.length ≤ 100000 ∧ takeN b l.length = (presB l, 0) ∧ ((b.length = 0) ↔ (someV l).length = l.length) := by
  have hle := someV_le l
  rcases Nat.lt_or_ge (someV l).length l.length with hlt | hge
  · have hp := presB_len l
    have hpos := enc_some (presB l) (by omega) (by omega)
    refine ⟨enc 0 [] (bytesB (presB l)), ?_, ?_, ?_, ?_, ?_⟩
    · unfold putN
      rw [if_neg (by omega), if_pos hlt]
    · exact enc_u8 _ _ _ (bytesB_u8 _) (fun y hy => (by cases hy))
    · have := put_lenN (presB l) (by omega); omega
    · have hb := take_back (presB l) [] (by omega)
      rw [List.append_nil, hp] at hb
      unfold takeN
      rw [if_neg (by omega), if_neg (by omega), hb, if_neg]
      rintro (h1 | h1 | h1)
      · exact h1 rfl
      · simp at h1
      · dsimp only at h1; rw [count_pres] at h1; omega
    · constructor <;> intro h1 <;> omega
  · have he : (someV l).length = l.length := by omega
    refine ⟨[], ?_, fun y hy => (by cases hy), by simp, ?_, by simp [he]⟩
    · unfold putN
      rw [if_neg (by omega), if_neg (by omega)]
    · unfold takeN
      rw [if_neg (by omega), pres_all l he]
      exact if_pos rfl

theorem rv_one_n {w : World} {x : Val} {t : TypeId} {g : Nat} (h : g = w.heap.size) : Rv (w.alloc (.cells #[.bool x.null, .int .i64 x.n, .string x.s] t)) (some ⟨g, 0, none⟩) 1 [x] := rv_one_at h
set_option maxRecDepth 100000 in
set_option maxHeartbeats 4000000 in
theorem NullsBack_walk (w : World) (A : Option Addr) (n cap : Nat) (l : List Val) (hr : Rv w A n l) (hc : n ≤ cap) (hm : cap ≤ maxLen) :
    Calls Try.prog 6 #[.slice A n cap] w fun e w' => e = .returned (.bool true) ∧ Below w.heap.size w w' := by
  unfold maxLen at hm
  have HR := Lib.hid hr; have HN := Lib.hid hr.len; clear hr
  go_enter Try.func6, Try.ntmps6
  go_wp2_with fail
  refine (shown13_any _).mono ?_; rintro e w1 ⟨rfl, hb1⟩
  have HB1 := Lib.hid hb1; clear hb1
  go_wp2_with fail
  have HE := Lib.hid (own_empty w1 42 3)
  go_loopw [4, 5, 6] (fun v i _ wr => ∃ j : Nat, j ≤ n ∧ j ≤ 4096 ∧ i = .int .i64 j ∧ Hid (wr.ownsRow w1.heap.size 42 3 v j (cellsV ((l.take j).map normV))) ∧ Hid (Below w1.heap.size w1 wr)) (fun _ i _ _ => n - (intOf i).toNat)
  case atStart => exact ⟨0, by omega, by omega, rfl, HE, (Below.refl w1.heap.size w1).alloc (Nat.le_refl _) _⟩
  case round =>
    obtain ⟨j, hj1, hj2, rfl, ho, hb⟩ := hrel
    have hz := hb.out.size
    by_cases hlt : j < n ∧ j < 4096
    · obtain ⟨hlt1, hlt2⟩ := hlt
      obtain ⟨b, o, v, hA, hbl, hv, a1, a2, a3⟩ := HR.out.at_ hlt1
      subst hA
      have g1 := ((on HB1.out hb.out).cell (p := ⟨b, o + j * 3, none⟩) hbl).trans a1
      have g2 := ((on HB1.out hb.out).cell (p := ⟨b, o + j * 3 + 1, none⟩) hbl).trans a2
      have g3 := ((on HB1.out hb.out).cell (p := ⟨b, o + j * 3 + 2, none⟩) hbl).trans a3
      have hs : Hid ((l.take (j + 1)).map normV = (l.take j).map normV ++ [normV v]) := by
        rw [List.take_add_one, hv, Option.toList_some, List.map_append]; exact Lib.hid rfl
      clear hv a1 a2 a3
      cases hvn : v.null
      · rw [hvn] at g1
        have HV : Hid (normV v = ⟨false, v.n, v.s⟩) := by
          unfold normV; rw [hvn, if_neg (by simp), ← hvn]; exact Lib.hid rfl
        clear hvn
        have HW2 := Lib.hid (((hb.out).alloc (by omega) (.cells #[.bool false, .int .i64 v.n, .string v.s] 42)))
        have HO2 := Lib.hid (own_below ho.out ((Below.refl _ _).alloc (Nat.le_refl _) (.cells #[.bool false, .int .i64 v.n, .string v.s] 42)))
        go_wp2_with (at_builtin; refine wpList_val _ rfl _ _ rfl w1.heap.size _ j _ rfl (own_below HO2.out ((Below.refl _ _).alloc (Nat.le_refl _) _)) _ 1 1 [⟨false, v.n, v.s⟩] rfl (rv_one_at (by simp)) (by omega) (by simp; omega) ?_; intro G c w3 hown hgr hcc)
        have HOWN := Lib.hid hown; have HNB := Lib.hid (push_ HW2.out (Nat.le_refl _) HO2.out hgr)
        clear hown hgr
        go_wp2_with fail
        go_roundw
        case rel =>
          refine ⟨j + 1, by omega, by omega, by go_num, ?_, HNB⟩
          rw [hs.out, HV.out]
          exact HOWN
        case measure => simp [intOf] <;> omega
      · rw [hvn] at g1
        have HV : Hid (normV v = ⟨true, 0, ⟨#[]⟩⟩) := by
          unfold normV; rw [hvn, if_pos rfl]; exact Lib.hid rfl
        clear hvn
        have HW2 := Lib.hid (((hb.out).alloc (by omega) (.cells #[.bool true, .int .i64 0, .string ⟨#[]⟩] 42)))
        have HO2 := Lib.hid (own_below ho.out ((Below.refl _ _).alloc (Nat.le_refl _) (.cells #[.bool true, .int .i64 0, .string ⟨#[]⟩] 42)))
        go_wp2_with (at_builtin; refine wpList_val _ rfl _ _ rfl w1.heap.size _ j _ rfl (own_below HO2.out ((Below.refl _ _).alloc (Nat.le_refl _) _)) _ 1 1 [⟨true, 0, ⟨#[]⟩⟩] rfl (rv_one_at (by simp)) (by omega) (by simp; omega) ?_; intro G c w3 hown hgr hcc)
        have HOWN := Lib.hid hown; have HNB := Lib.hid (push_ HW2.out (Nat.le_refl _) HO2.out hgr)
        clear hown hgr
        go_wp2_with fail
        go_roundw
        case rel =>
          refine ⟨j + 1, by omega, by omega, by go_num, ?_, HNB⟩
          rw [hs.out, HV.out]
          exact HOWN
        case measure => simp [intOf] <;> omega
    · obtain ⟨L, hL⟩ : ∃ L, L = (l.take j).map normV := ⟨_, rfl⟩
      have hLn : Hid (∀ v ∈ L, v.null = true → v = nullV) := by
        rw [hL]
        refine Lib.hid (fun v hv h => ?_)
        obtain ⟨u, _, rfl⟩ := List.mem_map.1 hv
        exact norm_nothing u h
      rw [← hL] at ho
      clear hL
      obtain ⟨G, c, rfl⟩ := own_form ho.out
      have HO := Lib.hid (Rv.of_own ho.out)
      have hLl := HO.out.len
      have HB := Lib.hid (on HB1.out hb.out)
      obtain ⟨b, hp, hp8, hpl, htk, hiff⟩ := null_back L (by omega)
      have hj := join_back L hLn.out
      have hsl := someV_le L
      have hprl := presB_len L
      rw [hLl] at htk hiff hsl hprl
      have HP := Lib.hid hp; have HP8 := Lib.hid hp8; have HT := Lib.hid htk; have HJ := Lib.hid hj; have HI := Lib.hid hiff
      have HLl := Lib.hid hLl; have HPR := Lib.hid hprl
      have hj4k : j ≤ 4096 := hj2
      clear hp hp8 htk hj hiff ho hb hLl hprl
      have hjj : j = n ∨ (j < n ∧ 4096 ≤ j) := by omega
      clear hlt
      rcases hjj with rfl | ⟨hjn, hj4⟩
      all_goals
        go_wp2_with fail
        refine (PutN_any _ _ _ _ L HO.out (by omega) b (someV L) 0 HP.out).mono ?_; rintro e w4 ⟨G4, n4, c4, G5, n5, c5, rfl, hs4, hs5, hb4⟩
        have Q4 := Lib.hid hs4.1.len; have Q5 := Lib.hid hs5.1.len
        have r4 : n4 ≤ 100000 := by have := hs4.1.len; omega
        have r5 : n5 ≤ j := by have := hs5.1.len; omega
        have HS4 := Lib.hid hs4; have HS5 := Lib.hid hs5; have HO4 := Lib.hid (HO.out.below hb4); have HB4 := Lib.hid (on HB.out hb4)
        obtain ⟨k1, k2⟩ := hs4.2
        clear hs4 hs5 hb4
        go_wp2_with fail
        refine (TakeN_any _ _ _ _ b HS4.out.1 HP8.out k1 k2 (by omega) j (presB L) 0 HT.out).mono ?_; rintro e w5 ⟨G6, n6, c6, rfl, hs6, hb5⟩
        have r6 : n6 ≤ j := by have := hs6.1.len; have := HPR.out; omega
        have HS6 := Lib.hid hs6; have HS5' := Lib.hid (HS5.out.below hb5); have HO5 := Lib.hid (HO4.out.below hb5); have HB5 := Lib.hid (on HB4.out hb5)
        clear hs6 hb5
        go_wp2_with fail
        refine (Join_any _ _ _ _ _ _ _ (presB L) (someV L) HS6.out.1 HS5'.out.1 (by omega) (by omega) L 0 HJ.out).mono ?_; rintro e w6 ⟨G7, n7, c7, rfl, hs7, hb6⟩
        have e7 : n7 = j := by have := hs7.1.len; have := HLl.out; omega
        subst e7
        have HS7 := Lib.hid hs7; have HO6 := Lib.hid (HO5.out.below hb6); have HB6 := Lib.hid (on HB5.out hb6)
        clear hs7 hb6
        go_wp2_with fail
        refine (SameV_any _ _ _ _ _ _ L HS7.out.1 HO6.out (by omega)).mono ?_; rintro e w7 ⟨rfl, hb7⟩
        have HB7 := Lib.hid (on HB6.out hb7)
        have t1 : decide (n5 ≤ n7) = true := decide_eq_true (by omega)
        clear hb7
        by_cases hz : n4 = 0
        · have h1 := HI.out.1 (by have := Q4.out; omega)
          have h5 := Q5.out
          have t2 : ((n4 : Int) == 0) = true := by simp; omega
          have t3 : ((n5 : Int) == (n7 : Int)) = true := by simp; omega
          clear hsl hz h1 h5
          go_wp2_with fail
          go_ret
          exact ⟨rfl, HB7.out⟩
        · have h1 : ¬ n5 = n7 := fun h => hz (by have := HI.out.2 (by have := Q5.out; omega); have := Q4.out; omega)
          have t2 : ((n4 : Int) == 0) = false := by simp; omega
          have t3 : ((n5 : Int) == (n7 : Int)) = false := by simp; omega
          clear hsl hz h1
          go_wp2_with fail
          go_ret
          exact ⟨rfl, HB7.out⟩
end Go.Proofs.Ytlmfdmaoakckgaa

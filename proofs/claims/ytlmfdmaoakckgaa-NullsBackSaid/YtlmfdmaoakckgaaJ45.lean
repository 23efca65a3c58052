/- Joined texts: Shown13, LawN3. Each has its own head line. No condition beyond those that its theorems state. -/
import Derived.Test.YtlmfdmaoakckgaaJ37
import Derived.Test.YtlmfdmaoakckgaaJ44
set_option linter.unusedVariables false

/- nulls' laws: the head. -/
namespace Go.Proofs.Ytlmfdmaoakckgaa
open Go.RowKit

theorem Rv_lit (w : World) (l : List Val) (t : TypeId) (cs : Array Value) (hcs : cs = (cellsV l).toArray) (n : Nat) (hn : l.length = n) : Rv (w.alloc (.cells cs t)) (some ⟨w.heap.size, 0, none⟩) n l := by
  subst hcs
  refine ⟨by rw [cellsV_len, hn], fun _ => ⟨w.heap.size, 0, rfl, by simp, fun j u hu => ?_⟩⟩
  rw [Nat.zero_add, (Blk.new w t _).cell]; simpa using hu
set_option maxRecDepth 100000 in
set_option maxHeartbeats 1000000 in
theorem shown13_any (w : World) :
    Calls Try.prog 10 #[] w fun e w' => e = .returned (.bool true) ∧ Below w.heap.size w w' := by
  have h1 : putN [⟨false, 5, ⟨#[]⟩⟩, ⟨true, 0, ⟨#[]⟩⟩, ⟨false, 6, ⟨#[]⟩⟩] = ([255, 160], [⟨false, 5, ⟨#[]⟩⟩, ⟨false, 6, ⟨#[]⟩⟩], 0) := by
    unfold putN
    rw [if_neg (by decide), if_pos (by decide), show enc 0 [] (bytesB (presB [⟨false, 5, ⟨#[]⟩⟩, ⟨true, 0, ⟨#[]⟩⟩, ⟨false, 6, ⟨#[]⟩⟩])) = [255, 160] from by decide +kernel]
    rfl
  have h2 : putN [⟨false, 5, ⟨#[]⟩⟩, ⟨false, 6, ⟨#[]⟩⟩] = ([], [⟨false, 5, ⟨#[]⟩⟩, ⟨false, 6, ⟨#[]⟩⟩], 0) := by
    unfold putN
    rw [if_neg (by decide), if_neg (by decide)]
    rfl
  have H1 := Lib.hid h1; have H2 := Lib.hid h2
  clear h1 h2
  go_enter Try.func10, Try.ntmps10
  go_wp2_with fail
  refine (PutN_any _ _ 3 3 _ (Rv_lit _ [⟨false, 5, ⟨#[]⟩⟩, ⟨true, 0, ⟨#[]⟩⟩, ⟨false, 6, ⟨#[]⟩⟩] _ _ rfl _ rfl) (by omega) _ _ _ H1.out).mono ?_; rintro e w1 ⟨G1, n1, c1, G2, n2, c2, rfl, hs1, hs2, hb1⟩
  have HB1 := Lib.hid (on ((Below.refl w.heap.size w).alloc (Nat.le_refl _) _) hb1)
  have e2 : n2 = 2 := hs2.1.len.symm
  subst e2
  go_wp2_with fail
  refine (PutN_any _ _ 2 2 _ (Rv_lit _ [⟨false, 5, ⟨#[]⟩⟩, ⟨false, 6, ⟨#[]⟩⟩] _ _ rfl _ rfl) (by omega) _ _ _ H2.out).mono ?_; rintro e w2 ⟨G3, n3, c3, G4, n4, c4, rfl, hs3, hs4, hb2⟩
  have HB2 := Lib.hid (on (on HB1.out ((Below.refl w1.heap.size w1).alloc (Nat.le_refl _) _)) hb2)
  have e3 : n3 = 0 := hs3.1.len.symm
  have e4 : n4 = 2 := hs4.1.len.symm
  subst e3 e4
  obtain ⟨b, o, v, rfl, _, hv, _, hc, _⟩ := ((hs2.1.alloc (.cells #[.bool false, .int .i64 5, .string ⟨#[]⟩, .bool false, .int .i64 6, .string ⟨#[]⟩] 42)).below hb2).at_ (j := 1) (by omega)
  simp at hv
  subst hv
  have cv1 := conv_any (c := c1) ((hs1.1.alloc (.cells #[.bool false, .int .i64 5, .string ⟨#[]⟩, .bool false, .int .i64 6, .string ⟨#[]⟩] 42)).below hb2)
  have s1 : (strOf [255, 160]).toList = [255, 160] := strOf_toList _
  have hc' : w2.cell? ⟨b, o + 3 + 1, none⟩ = some (.int .i64 6) := hc
  clear hs1 hb1 hs2 hb2 hs3 hs4 hc
  go_wp2_with fail
  go_ret
  exact ⟨rfl, HB2.out⟩

def FewOutV (w : World) (A : Option Addr) (n k : Nat) (l : List Val) (e : Ending) (w' : World) : Prop :=
  ∃ m c, e = .returned (.slice A m c) ∧ w' = w ∧ m ≤ c ∧ c ≤ 9223372036854775807 ∧ m ≤ k ∧ m ≤ n ∧ Rv w A m (l.take k)
set_option maxHeartbeats 400000 in
theorem few13_any (w : World) (A : Option Addr) (n c : Nat) (l : List Val) (hr : Rv w A n l) (hc : n ≤ c) (hcm : c ≤ 9223372036854775807) :
    Calls Try.prog 11 #[.slice A n c] w (FewOutV w A n 4200 l) := by
  have HR := Lib.hid hr; clear hr
  rcases Nat.lt_or_ge 4200 n with h | h
  · go_enter Try.func11, Try.ntmps11
    go_wp2_with fail
    go_ret
    exact ⟨4200, c, rfl, rfl, by omega, hcm, Nat.le_refl _, by omega, HR.out.first (by omega)⟩
  · go_enter Try.func11, Try.ntmps11
    go_wp2_with fail
    go_ret
    exact ⟨n, c, rfl, rfl, hc, hcm, h, Nat.le_refl _, by rw [List.take_of_length_le (by rw [HR.out.len]; exact h)]; exact HR.out⟩
end Go.Proofs.Ytlmfdmaoakckgaa

/- The walk through NullsTakes. -/
namespace Go.Proofs.Ytlmfdmaoakckgaa
open Go.RowKit

theorem takeN_len (b : List Int) (m : Int) : (takeN b m).1.length ≤ 4096 := by
  unfold takeN
  split
  · simp
  · split
    · rw [List.length_replicate]; omega
    · split
      · simp
      · exact takeB_len b m
theorem cut_ri14 {w : World} {kd : IntKind} {A : Option Addr} {n : Nat} {l : List Int} (h : Ri w kd A n l) (K : Nat) :
    (K < n ∧ (∃ b o, A = some ⟨b, o, none⟩) ∧ Ri w kd A K (l.take K)) ∨ (n ≤ K ∧ Ri w kd A n (l.take K)) := by
  rcases Nat.lt_or_ge K n with h1 | h1
  · obtain ⟨b, o, e, _⟩ := h.all (by omega)
    exact .inl ⟨h1, ⟨b, o, e⟩, h.first (by omega)⟩
  · exact .inr ⟨h1, by rw [List.take_of_length_le (by rw [h.len]; exact h1)]; exact h⟩

set_option maxRecDepth 100000 in
set_option maxHeartbeats 2000000 in
theorem NullsTakes_walk (w : World) (A : Option Addr) (n cap : Nat) (b : List Int) (hr : Ri w .u8 A n b) (hu : U8 b) (hc : n ≤ cap) (hm : cap ≤ maxLen) (many : Int) (_hx : -9223372036854775808 ≤ many ∧ many < 9223372036854775808) :
    Calls Try.prog 5 #[.slice A n cap, .int .i64 many] w fun e w' => e = .returned (.bool true) ∧ Below w.heap.size w w' := by
  unfold maxLen at hm
  have HU := Lib.hid (hu.take 600)
  obtain ⟨l, er, hl⟩ : ∃ l er, takeN (b.take 600) many = (l, er) := ⟨_, _, rfl⟩
  have hg := takeN_len (b.take 600) many
  rw [hl] at hg
  dsimp only at hg
  have HL := Lib.hid hl
  clear hl hu
  rcases cut_ri14 hr 600 with ⟨h1, ⟨bb, oo, rfl⟩, h2⟩ | ⟨h1, h2⟩
  all_goals
    have H2 := Lib.hid h2
    clear hr h2
    go_enter Try.func5, Try.ntmps5
    go_wp2_with fail
    refine (shown13_any _).mono ?_; rintro e w1 ⟨rfl, hb1⟩
    have HB1 := Lib.hid hb1; clear hb1
    go_wp2_with (at_builtin; refine wpList_u8 _ rfl _ _ rfl w1.heap.size _ 0 [] rfl (own_empty w1 _ 1) _ _ _ (b.take 600) rfl ((H2.out.below HB1.out).alloc _) (by omega) (by simp) ?_; intro G3 c3 w3 hown hgr hcc)
    have hb3 := push0 ((Below.refl w1.heap.size w1).alloc (Nat.le_refl _) _) (Nat.le_refl _) (own_empty w1 _ 1) hgr
    rw [Nat.zero_add, List.nil_append] at hown
    have hs3 := Sl.of_own hown
    have HO := Lib.hid hs3
    have HB3 := Lib.hid hb3
    clear hown hgr hcc hs3 hb3
    refine (TakeN_any _ _ _ _ (b.take 600) HO.out.1 HU.out HO.out.2.1 HO.out.2.2 (by omega) many l er HL.out).mono ?_; rintro e w4 ⟨G4, n4, c4, rfl, hs4, hb4⟩
    go_wp2_with fail
    refine (refTakeN_any _ _ _ _ (b.take 600) (((H2.out.below HB1.out).below HB3.out).below hb4) HU.out (by omega) (by omega) (by omega) many l er HL.out).mono ?_; rintro e w5 ⟨G6, n6, c6, rfl, hs6, hb5⟩
    have q4 := hs4.1.len; have q6 := hs6.1.len
    go_wp2_with fail
    refine (SameB_any _ _ _ _ _ _ _ l l (hs4.1.below hb5) hs6.1 (by omega) (by omega)).mono ?_; rintro e w6 ⟨rfl, hb6⟩
    rw [decide_eq_true rfl]
    have HB := Lib.hid (on (on (on (on HB1.out HB3.out) hb4) hb5) hb6)
    clear hs4 hs6 hb4 hb5 hb6 q4 q6
    go_wp2_with fail
    go_ret
    exact ⟨rfl, HB.out⟩
end Go.Proofs.Ytlmfdmaoakckgaa

/- Joined texts: LawDk1. Each has its own head line. No condition beyond those that its theorems state. -/
import Derived.Deep.CutBlock
import Derived.Deep.DeepCutAuto
import Derived.Test.YtekdcnlbdgikoaaDoorJ19
set_option linter.unusedVariables false

/- The walk through DiskSafe. -/
namespace Go.Proofs.YtekdcnlbdgikoaaDoor
open Go.RowKit

def fS : ByteArray := ⟨#[102]⟩
theorem path_f : pathD fS = true := by decide +kernel
theorem safe_create : createM (-1) [] fS = (0, [⟨fS, [], 0⟩]) := by
  unfold createM
  rw [if_neg (by decide), path_f]
  rfl
theorem safe_append (b c : List Int) (s : Nat) (h : b.length + c.length ≤ 1000) : appendM 5000 (-1) [⟨fS, b, s⟩] fS c = (0, [⟨fS, b ++ c, s⟩]) := by
  have h1 : findM [⟨fS, b, s⟩] fS = some ⟨fS, b, s⟩ := by simp [findM]
  have h2 : usedM [⟨fS, b, s⟩] = b.length := by simp [usedM]
  unfold appendM
  rw [if_neg (by decide), h1]
  dsimp only
  rw [if_neg (by omega), h2, if_neg (by omega)]
  simp [setM]
theorem safe_sync (b : List Int) (s : Nat) : syncM (-1) [⟨fS, b, s⟩] fS = (0, [⟨fS, b, b.length⟩]) := by
  have h1 : findM [⟨fS, b, s⟩] fS = some ⟨fS, b, s⟩ := by simp [findM]
  unfold syncM
  rw [if_neg (by decide), h1]
  simp [setM]
theorem safe_crash (keep : Int) (b : List Int) (s : Nat) : crashM keep [⟨fS, b, s⟩] = [⟨fS, b.take (keptN keep b.length s), keptN keep b.length s⟩] := rfl
theorem safe_read (b : List Int) (s : Nat) : readM [⟨fS, b, s⟩] fS = (b, 0) := by
  have h1 : findM [⟨fS, b, s⟩] fS = some ⟨fS, b, s⟩ := by simp [findM]
  unfold readM
  rw [h1]
theorem cut_ri3 {w : World} {kd : IntKind} {A : Option Addr} {n : Nat} {l : List Int} (h : Ri w kd A n l) (K : Nat) :
    (K < n ∧ (∃ b o, A = some ⟨b, o, none⟩) ∧ Ri w kd A K (l.take K)) ∨ (n ≤ K ∧ Ri w kd A n (l.take K)) := by
  rcases Nat.lt_or_ge K n with h1 | h1
  · obtain ⟨b, o, e, _⟩ := h.all (by omega)
    exact .inl ⟨h1, ⟨b, o, e⟩, h.first (by omega)⟩
  · exact .inr ⟨h1, by rw [List.take_of_length_le (by rw [h.len]; exact h1)]; exact h⟩

theorem strOf_size (l : List Int) : (strOf l).size = l.length := strOfNums_size l
theorem strOf_app (a b : List Int) : strOf a ++ strOf b = strOf (a ++ b) := by
  refine bytes_ext ?_
  show (strOf a ++ strOf b).data.toList = ((a ++ b).map fun n => UInt8.ofNat n.toNat)
  rw [List.map_append]
  simp [ByteArray.data_append, strOf, strOfNums]
theorem strOf_cut (l : List Int) (N : Nat) : (strOf l).extract 0 N = strOf (l.take N) := by
  refine bytes_ext ?_
  rw [Lib.extract_from_zero]
  show (l.map fun n => UInt8.ofNat n.toNat).take N = ((l.take N).map fun n => UInt8.ofNat n.toNat)
  rw [List.map_take]
theorem kept0 (L N : Nat) : keptN 0 L N = N := by unfold keptN; simp
theorem used_one (p : ByteArray) (b : List Int) (s : Nat) : usedM [⟨p, b, s⟩] = b.length := by simp [usedM]
set_option maxRecDepth 100000 in
set_option maxHeartbeats 4000000 in
theorem DiskSafe_walk (w : World) (m : Int) (hm0 : w.cell? ⟨0, 0, none⟩ = some (.int .i64 m)) (A : Option Addr) (n cap : Nat) (a : List Int) (hra : Ri w .u8 A n a) (hua : U8 a) (hca : n ≤ cap) (hma : cap ≤ maxLen)
    (B : Option Addr) (nb capb : Nat) (b : List Int) (hrb : Ri w .u8 B nb b) (hub : U8 b) (hcb : nb ≤ capb) (hmb : capb ≤ maxLen)
    (C : Option Addr) (nc capc : Nat) (c : List Int) (hrc : Ri w .u8 C nc c) (huc : U8 c) (hcc : nc ≤ capc) (hmc : capc ≤ maxLen) (keep : Int) (hk : -9223372036854775808 ≤ keep ∧ keep < 9223372036854775808) :
    Calls Tryd.prog 3 #[.slice A n cap, .slice B nb capb, .agg #[.slice C nc capc, .int .i64 keep]] w fun e w' => e = .returned (.bool true) ∧ Below w.heap.size w w' := by
  unfold maxLen at hma hmb hmc
  have hlt := World.block_lt_of_cell? w _ hm0
  have HM0 := Lib.hid hm0; have HA := Lib.hid hra; have HB := Lib.hid hrb; have HC := Lib.hid hrc; have HUA := Lib.hid hua; have HUB := Lib.hid hub; have HUC := Lib.hid huc
  clear hm0 hra hrb hrc hua hub huc
  go_enter Tryd.func3, Tryd.ntmps3
  go_wp2_with fail
  refine (shown23_any _ m ((World.cell?_alloc_lt w _ ⟨0, 0, none⟩ hlt).trans HM0.out)).mono ?_; rintro e w1 ⟨rfl, hb1⟩
  have HB1 := Lib.hid (on ((Below.refl w.heap.size w).alloc (Nat.le_refl _) _) hb1)
  clear hb1
  go_wp2_with fail
  refine (New_any _ _).mono ?_; rintro e w2 ⟨d, D, rfl, hd0, hD0, hd2, hb2⟩
  have HB2 := Lib.hid (on HB1.out hb2)
  have HD2 := Lib.hid hd2
  clear hd2 hb2
  go_upto_if 37 with fail
  go_cut [0] (fun v wx => ∃ (A1 : Option Addr) (m1 c1 : Nat), v = .slice A1 m1 c1 ∧ m1 ≤ 300 ∧ Hid (Ri w .u8 A1 m1 (a.take 300)) ∧ wx = w2)
  case first =>
    rcases cut_ri3 HA.out 300 with ⟨h1, ⟨bb, oo, rfl⟩, h2⟩ | ⟨h1, h2⟩
    · have H2 := Lib.hid h2
      clear h2
      go_wp2_with fail
      go_meet
      exact ⟨_, _, _, rfl, by omega, H2, rfl⟩
    · have H2 := Lib.hid h2
      clear h2
      go_wp2_with fail
      go_meet
      exact ⟨_, _, _, rfl, h1, H2, rfl⟩
  case rest =>
  obtain ⟨A1, n1, ca1, rfl, hn1, hA1, hw⟩ := hcut
  subst hw
  obtain ⟨w2, hw2⟩ : ∃ w2, w2 = wc := ⟨_, rfl⟩
  subst hw2
  go_upto_if 42 with fail
  go_cut [1] (fun v wx => ∃ (A1 : Option Addr) (m1 c1 : Nat), v = .slice A1 m1 c1 ∧ m1 ≤ 300 ∧ Hid (Ri w .u8 A1 m1 (b.take 300)) ∧ wx = w2)
  case first =>
    rcases cut_ri3 HB.out 300 with ⟨h1, ⟨bb, oo, rfl⟩, h2⟩ | ⟨h1, h2⟩
    · have H2 := Lib.hid h2
      clear h2
      go_wp2_with fail
      go_meet
      exact ⟨_, _, _, rfl, by omega, H2, rfl⟩
    · have H2 := Lib.hid h2
      clear h2
      go_wp2_with fail
      go_meet
      exact ⟨_, _, _, rfl, h1, H2, rfl⟩
  case rest =>
  obtain ⟨B1, nb1, cb1, rfl, hnb1, hB1, hw⟩ := hcut
  subst hw
  obtain ⟨w2, hw2⟩ : ∃ w2, w2 = wc := ⟨_, rfl⟩
  subst hw2
  go_upto_if 47 with fail
  go_cut [7] (fun v wx => ∃ (A1 : Option Addr) (m1 c1 : Nat), v = .slice A1 m1 c1 ∧ m1 ≤ 300 ∧ Hid (Ri w .u8 A1 m1 (c.take 300)) ∧ wx = w2)
  case first =>
    rcases cut_ri3 HC.out 300 with ⟨h1, ⟨bb, oo, rfl⟩, h2⟩ | ⟨h1, h2⟩
    · have H2 := Lib.hid h2
      clear h2
      go_wp2_with fail
      go_meet
      exact ⟨_, _, _, rfl, by omega, H2, rfl⟩
    · have H2 := Lib.hid h2
      clear h2
      go_wp2_with fail
      go_meet
      exact ⟨_, _, _, rfl, h1, H2, rfl⟩
  case rest =>
  obtain ⟨C1, nc1, cc1, rfl, hnc1, hC1, hw⟩ := hcut
  subst hw
  obtain ⟨w2, hw2⟩ : ∃ w2, w2 = wc := ⟨_, rfl⟩
  subst hw2
  have hdne : d ≠ 0 := by have h : (⟨0, 0, none⟩ : Addr).block < w.heap.size := hlt; have := HB1.out.size; show d ≠ (⟨0, 0, none⟩ : Addr).block; omega
  have hDne : D ≠ 0 := by have h : (⟨0, 0, none⟩ : Addr).block < w.heap.size := hlt; have := HB1.out.size; show D ≠ (⟨0, 0, none⟩ : Addr).block; omega
  have hd0' : w.heap.size ≤ d := Nat.le_trans HB1.out.size hd0
  have hD0' : w.heap.size ≤ D := Nat.le_trans HB1.out.size hD0
  have hsz : fS.size ≤ maxLen := by decide +kernel
  obtain ⟨la, hla⟩ : ∃ la, la = a.take 300 := ⟨_, rfl⟩
  obtain ⟨lb, hlb⟩ : ∃ lb, lb = b.take 300 := ⟨_, rfl⟩
  obtain ⟨lc, hlc⟩ : ∃ lc, lc = c.take 300 := ⟨_, rfl⟩
  have hula : U8 la := by rw [hla]; exact HUA.out.take 300
  have hulb : U8 lb := by rw [hlb]; exact HUB.out.take 300
  have hulc : U8 lc := by rw [hlc]; exact HUC.out.take 300
  rw [← hla] at hA1
  rw [← hlb] at hB1
  rw [← hlc] at hC1
  have HLA := Lib.hid hA1.out.len; have HLB := Lib.hid hB1.out.len; have HLC := Lib.hid hC1.out.len
  have HULA := Lib.hid hula; have HULB := Lib.hid hulb; have HULC := Lib.hid hulc
  clear hla hlb hlc hula hulb hulc
  have e1 : la.length ≤ 300 := by rw [HLA.out]; exact hn1
  have e2 : lb.length ≤ 300 := by rw [HLB.out]; exact hnb1
  have e3 : lc.length ≤ 300 := by rw [HLC.out]; exact hnc1
  have E1 := Lib.hid e1; have E2 := Lib.hid e2; have E3 := Lib.hid e3
  clear e1 e2 e3
  have HM2 := Lib.hid ((HB2.out.cell (p := ⟨0, 0, none⟩) hlt).trans HM0.out)
  go_wp2_with fail
  refine (CreateM_any _ d D 5000 (-1) [] ⟨[], rfl, HD2.out⟩ (by omega) hdne hDne fS hsz m HM2.out 0 _ safe_create).mono ?_; rintro e w3 ⟨rfl, hd3, ht3⟩
  have HD3 := Lib.hid hd3
  have HB3 := Lib.hid (Turn.below HB2.out ht3 hd0' hD0' HB2.out.size)
  clear hd3 ht3
  go_wp2_with fail
  refine (Append_any _ d D 5000 (-1) _ HD3.out (by omega) fS hsz (by simp) (by rw [used_one]; simp) _ n1 ca1 la (hA1.out.below HB3.out) HULA.out (by omega) 0 [⟨fS, la, 0⟩] (safe_append [] la 0 (by have := E1.out; simp; omega))).mono ?_; rintro e w4 ⟨rfl, hd4, ht4⟩
  have HD4 := Lib.hid hd4
  have HB4 := Lib.hid (Turn.below HB3.out ht4 hd0' hD0' HB3.out.size)
  clear hd4 ht4
  go_wp2_with fail
  refine (Sync_any _ d D 5000 (-1) _ HD4.out (by omega) fS hsz (by simp) 0 _ (safe_sync la 0)).mono ?_; rintro e w5 ⟨rfl, hd5, ht5⟩
  have HD5 := Lib.hid hd5
  have HB5 := Lib.hid (Turn.below HB4.out ht5 hd0' hD0' HB4.out.size)
  clear hd5 ht5
  go_wp2_with fail
  refine (Append_any _ d D 5000 (-1) _ HD5.out (by omega) fS hsz (by simp) (by rw [used_one]; have := E1.out; omega) _ nb1 cb1 lb (hB1.out.below HB5.out) HULB.out (by omega) 0 _ (safe_append la lb la.length (by have := E1.out; have := E2.out; omega))).mono ?_; rintro e w6 ⟨rfl, hd6, ht6⟩
  have HD6 := Lib.hid hd6
  have HB6 := Lib.hid (Turn.below HB5.out ht6 hd0' hD0' HB5.out.size)
  clear hd6 ht6
  go_wp2_with fail
  refine (Sync_any _ d D 5000 (-1) _ HD6.out (by omega) fS hsz (by simp) 0 _ (safe_sync (la ++ lb) la.length)).mono ?_; rintro e w7 ⟨rfl, hd7, ht7⟩
  have HD7 := Lib.hid hd7
  have HB7 := Lib.hid (Turn.below HB6.out ht7 hd0' hD0' HB6.out.size)
  clear hd7 ht7
  go_wp2_with fail
  refine (Append_any _ d D 5000 (-1) _ HD7.out (by omega) fS hsz (by simp) (by rw [used_one, List.length_append]; have := E1.out; have := E2.out; omega) _ nc1 cc1 lc (hC1.out.below HB7.out) HULC.out (by omega) 0 _ (safe_append (la ++ lb) lc (la ++ lb).length (by rw [List.length_append]; have := E1.out; have := E2.out; have := E3.out; omega))).mono ?_; rintro e w8 ⟨rfl, hd8, ht8⟩
  have HD8 := Lib.hid hd8
  have HB8 := Lib.hid (Turn.below HB7.out ht8 hd0' hD0' HB7.out.size)
  clear hd8 ht8
  go_wp2_with fail
  refine (Crash_any _ d D 5000 (-1) _ HD8.out (by simp) (by rw [used_one, List.length_append, List.length_append]; have := E1.out; have := E2.out; have := E3.out; omega) keep hk).mono ?_; rintro e w9 ⟨rfl, hd9, ht9⟩
  rw [safe_crash] at hd9
  obtain ⟨N, hN⟩ : ∃ N, N = keptN keep (la ++ lb ++ lc).length (la ++ lb).length := ⟨_, rfl⟩
  rw [← hN] at hd9
  have hNe : (N : Int) = (n1 : Int) + nb1 + min (max keep 0) nc1 := by
    rw [hN, List.length_append, List.length_append, HLA.out, HLB.out, HLC.out]
    unfold keptN
    omega
  have hNl : N ≤ n1 + nb1 + nc1 := by omega
  have HN := Lib.hid hNe
  clear hN hNe
  obtain ⟨T, hT⟩ : ∃ T, T = (la ++ lb ++ lc).take N := ⟨_, rfl⟩
  rw [← hT] at hd9
  have HTT : Hid (T.take N = T) := by rw [hT, List.take_take, Nat.min_self]; exact Lib.hid rfl
  have HTL : Hid (T.length ≤ 900) := by rw [hT, List.length_take]; exact Lib.hid (by omega)
  have HCUT : Hid ((strOf (la ++ (lb ++ lc))).extract 0 N = strOf T) := by rw [strOf_cut, hT, List.append_assoc]; exact Lib.hid rfl
  clear hT
  have HD9 := Lib.hid hd9
  have HB9 := Lib.hid (Turn.below HB8.out ht9 hd0' hD0' HB8.out.size)
  clear hd9 ht9
  go_wp2_with fail
  refine (Read_any _ d D 5000 (-1) _ HD9.out fS hsz (by rw [used_one]; have := HTL.out; omega) T 0 (safe_read _ _)).mono ?_; rintro e wA ⟨G, nG, cG, rfl, hsA, hbA⟩
  have HSA := Lib.hid hsA.1
  have HDA := Lib.hid (HD9.out.below hbA)
  have HBA := Lib.hid (on HB9.out hbA)
  have va := conv_any (c := ca1) (hA1.out.below HBA.out)
  have vb := conv_any (c := cb1) (hB1.out.below HBA.out)
  have vc := conv_any (c := cc1) (hC1.out.below HBA.out)
  clear hsA hbA
  have app1 := strOf_app la lb
  have app2 := strOf_app (la ++ lb) lc
  have z1 : (strOf la).size = n1 := by rw [strOf_size]; exact HLA.out
  have z2 : (strOf lb).size = nb1 := by rw [strOf_size]; exact HLB.out
  have z3 : (strOf lc).size = nc1 := by rw [strOf_size]; exact HLC.out
  have z12 : (strOf (la ++ lb)).size = n1 + nb1 := by rw [strOf_size, List.length_append, HLA.out, HLB.out]
  go_wp2_with fail
  rw [← HN.out]
  clear va vb vc app1 app2 z1 z2 z3 z12
  refine (Crash_any _ d D 5000 (-1) _ HDA.out (by simp) (by rw [used_one]; have := HTL.out; omega) 0 (by omega)).mono ?_; rintro e wB ⟨rfl, hdB, htB⟩
  rw [safe_crash, kept0, HTT.out] at hdB
  have HDB := Lib.hid hdB
  have HSB := Lib.hid (HSA.out.turn (HDA.out.far HSA.out) htB)
  have HBB := Lib.hid (Turn.below HBA.out htB hd0' hD0' HBA.out.size)
  clear hdB htB
  go_wp2_with fail
  refine (Read_any _ d D 5000 (-1) _ HDB.out fS hsz (by rw [used_one]; have := HTL.out; omega) T 0 (safe_read _ _)).mono ?_; rintro e wC ⟨G2, nG2, cG2, rfl, hsC, hbC⟩
  have HBC := Lib.hid (on HBB.out hbC)
  have v1 := fun k => conv_any (c := cG) ((HSB.out.below hbC).drewN k)
  have v2 := fun k => conv_any (c := cG2) (hsC.1.drewN k)
  have zS : (strOf (la ++ (lb ++ lc))).size = n1 + nb1 + nc1 := by rw [strOf_size, List.length_append, List.length_append, HLA.out, HLB.out, HLC.out]; omega
  have cutE := HCUT.out
  clear hsC hbC
  go_wp2_with fail
  go_quiet (fail)
  go_wp2_with fail
  go_ret
  exact ⟨rfl, below_drewN' HBC.out _⟩
end Go.Proofs.YtekdcnlbdgikoaaDoor

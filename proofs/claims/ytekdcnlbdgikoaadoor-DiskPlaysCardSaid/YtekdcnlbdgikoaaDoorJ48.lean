/- Joined texts: LawDk7. Each has its own head line. No condition beyond those that its theorems state. -/
import Derived.Test.YtekdcnlbdgikoaaDoorJ47
set_option linter.unusedVariables false

/- Both hold the same files: alike. -/
namespace Go.Proofs.YtekdcnlbdgikoaaDoor
open Go.RowKit

theorem listM_len (M : List Mf) (dir : ByteArray) : (listM M dir).length ≤ M.length := by
  unfold listM
  split
  · simp
  · exact Nat.le_trans (List.length_filter_le _ _) (by simp)

set_option maxRecDepth 100000 in
set_option maxHeartbeats 4000000 in
theorem alike_any (w : World) (base d B y : Nat) (q lf : Int) (A : Option Addr) (c : Nat) (L K : List Fl) (M : List Mf) (h : Two w base d B y q lf lf A c L K M M) (hs : SmallM M) (hu : usedM M ≤ 900000) (dir : ByteArray) (hdir : dir.size ≤ reachBytes) :
    Calls Tryd.prog 21 #[.pointer (some ⟨d, 0, none⟩), .pointer (some ⟨y, 0, none⟩), .string dir] w fun e w' => e = .returned (.bool true) ∧ Below w.heap.size w w' := by
  have H := Lib.hid h
  have hs4 := hs.1
  have hDl : L.length = M.length := by rw [← h.hL, abs_len]
  have hKl : K.length = M.length := by rw [← h.hK, abs_len]
  have hDu : usedF L = usedM M := by rw [← h.hL]; exact abs_used h.dk.row
  have hKu : usedF K = usedM M := by rw [← h.hK]; exact abs_used h.rk.row
  have hl1 := listM_len M ⟨#[]⟩
  have hl2 := listM_len M dir
  have HE := Lib.hid (show (⟨#[]⟩ : ByteArray).size ≤ reachBytes from Nat.zero_le _)
  clear h
  go_enter Tryd.func21, Tryd.ntmps21
  go_wp2_with fail
  refine (List_any w d B q lf M H.out.da ⟨#[]⟩ (by omega)).mono ?_; rintro e w1 ⟨G1, n1, c1, rfl, hr1, hc1, hm1, hb1⟩
  have H1 := Lib.hid (H.out.below hb1)
  have HR1 := Lib.hid hr1; have HB1 := Lib.hid hb1
  have hn1 := hr1.len
  clear hr1 hb1
  go_wp2_with fail
  refine (rList_any w1 base y q lf A c K H1.out.rk (by omega) ⟨#[]⟩ HE.out).mono ?_; rintro e w2 ⟨G2, n2, c2, rfl, hr2, hc2, hm2, hb2⟩
  rw [H.out.hK] at hr2
  have H2 := Lib.hid (H1.out.below hb2)
  have HR2 := Lib.hid hr2; have HB2 := Lib.hid (on HB1.out hb2); have HR12 := Lib.hid (HR1.out.below hb2)
  have hn2 := hr2.len
  clear hr2 hb2
  go_wp2_with fail
  refine (rSame_any w2 G1 G2 n1 n2 c1 c2 _ _ HR12.out HR2.out (by omega) (by omega)).mono ?_; rintro e w3 ⟨rfl, q3, rfl⟩
  rw [decide_eq_true rfl]
  have H3 := Lib.hid (H2.out.below (drB w2 q3)); have HB3 := Lib.hid (below_drewN' HB2.out q3); have HR13 := Lib.hid (HR12.out.below (drB w2 q3))
  go_wp2_with fail
  refine (List_any (w2.drewN q3) d B q lf M H3.out.da dir (by omega)).mono ?_; rintro e w4 ⟨G4, n4, c4, rfl, hr4, hc4, hm4, hb4⟩
  have H4 := Lib.hid (H3.out.below hb4)
  have HR4 := Lib.hid hr4; have HB4 := Lib.hid (on HB3.out hb4); have HR14 := Lib.hid (HR13.out.below hb4)
  have hn4 := hr4.len
  clear hr4 hb4
  go_wp2_with fail
  refine (rList_any w4 base y q lf A c K H4.out.rk (by omega) dir hdir).mono ?_; rintro e w5 ⟨G5, n5, c5, rfl, hr5, hc5, hm5, hb5⟩
  rw [H.out.hK] at hr5
  have H5 := Lib.hid (H4.out.below hb5)
  have HR5 := Lib.hid hr5; have HB5 := Lib.hid (on HB4.out hb5); have HR15 := Lib.hid (HR14.out.below hb5); have HR45 := Lib.hid (HR4.out.below hb5)
  have hn5 := hr5.len
  clear hr5 hb5
  go_wp2_with fail
  refine (rSame_any w5 G4 G5 n4 n5 c4 c5 _ _ HR45.out HR5.out (by omega) (by omega)).mono ?_; rintro e w6 ⟨rfl, q6, rfl⟩
  rw [decide_eq_true rfl]
  have H6 := Lib.hid (H5.out.below (drB w5 q6)); have HB6 := Lib.hid (below_drewN' HB5.out q6); have HR16 := Lib.hid (HR15.out.below (drB w5 q6))
  go_wp2_with fail
  refine (UsedM_any _ d B q lf M H6.out.da (by omega)).mono ?_; rintro e w7 ⟨rfl, hb7⟩
  have H7 := Lib.hid (H6.out.below hb7); have HB7 := Lib.hid (on HB6.out hb7); have HR17 := Lib.hid (HR16.out.below hb7)
  clear hb7
  go_wp2_with fail
  refine (rUsed_any w7 base y q lf A c K H7.out.rk (by omega) (by omega)).mono ?_; rintro e w8 ⟨rfl, hw8⟩
  rw [hw8, hKu]
  clear hw8 w8
  go_wp2_with fail
  have hpz : ∀ x ∈ listM M ⟨#[]⟩, x.size ≤ 60 := fun x hx => by
    unfold listM at hx
    rw [if_pos (by simp)] at hx
    obtain ⟨f, hf, rfl⟩ := List.mem_map.1 hx
    exact hs.2 f hf
  have HPZ := Lib.hid hpz
  obtain ⟨ll, hll⟩ : ∃ ll, ll = listM M ⟨#[]⟩ := ⟨_, rfl⟩
  rw [← hll] at HR17 HPZ hn1 hl1
  have hall := fun hn => HR17.out.all hn
  have HALL := Lib.hid hall
  clear hpz hll hall HR1 HR2 HR4 HR5 HR12 HR13 HR14 HR15 HR16 HR45
  go_loopg [10] n1 (fun gg v wr => ∃ j : Nat, v = .int .i64 j ∧ j ≤ n1 ∧ n1 - j ≤ gg ∧ Hid (Below w7.heap.size w7 wr))
  case atStart => exact ⟨0, rfl, by omega, by omega, Lib.hid (Below.refl _ _)⟩
  case round =>
  obtain ⟨j, rfl, hjn, hgg, hbr⟩ := hrel
  by_cases hlt : j < n1
  · have t1 : decide (j < n1) = true := decide_eq_true hlt
    obtain ⟨bb, o, hG, hbb, hcells⟩ := HALL.out (by omega)
    have hj : j < ll.length := by omega
    have kj := (hbr.out.cell (p := ⟨bb, o + j, none⟩) hbb).trans (hcells j hj)
    have hx60 := HPZ.out _ (List.getElem_mem hj)
    obtain ⟨x, hx⟩ : ∃ x, x = ll[j] := ⟨_, rfl⟩
    rw [← hx] at kj hx60
    have hxm : x.size ≤ maxLen := by unfold maxLen; omega
    obtain ⟨b, er, hc⟩ : ∃ b er, readM M x = (b, er) := ⟨_, _, rfl⟩
    have HC := Lib.hid hc
    have HR := Lib.hid (H7.out.below hbr.out)
    subst hG
    clear hcells hx hc
    go_wp2_with fail
    refine (Read_any wr d B q lf M HR.out.da x hxm (by omega) b er HC.out).mono ?_; rintro e wd ⟨Ga, na, ca, rfl, hsa, hba⟩
    have HSA := Lib.hid hsa
    have HBA := Lib.hid hba
    have HRA := Lib.hid (HR.out.below hba)
    have kj2 := (hba.cell (p := ⟨bb, o + j, none⟩) (World.block_lt_of_cell? wr _ kj)).trans kj
    clear hsa hba
    go_wp2_with fail
    refine (rRead_any wd base y q lf A c K HRA.out.rk (by omega) x (by omega) b er (by rw [HRA.out.hK]; exact HC.out)).mono ?_; rintro e we ⟨Gb, nb, cb, rfl, hsb, hbb2⟩
    have HSB := Lib.hid hsb
    have HBB := Lib.hid (on HBA.out hbb2)
    have HSA2 := Lib.hid (HSA.out.1.below hbb2)
    have va := conv_any (c := ca) HSA2.out
    have vb := conv_any (c := cb) HSB.out.1
    have st : ((strOf b).toList == (strOf b).toList) = true := by simp
    clear hsb hbb2
    go_wp2_with fail
    go_roundg (n1 - (j + 1))
    case measure => omega
    case rel => exact ⟨j + 1, by go_num, hlt, Nat.le_refl _, Lib.hid (on hbr.out HBB.out)⟩
  · have t1 : decide (j < n1) = false := decide_eq_false hlt
    go_wp2_with fail
    go_ret
    exact ⟨rfl, on HB7.out hbr.out⟩
end Go.Proofs.YtekdcnlbdgikoaaDoor

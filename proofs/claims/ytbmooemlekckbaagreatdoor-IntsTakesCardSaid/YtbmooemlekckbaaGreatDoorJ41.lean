/- Joined texts: IntP, RefUF. Each has its own head line. No condition beyond those that its theorems state. -/
import Derived.Test.YtbmooemlekckbaaGreatDoorJ40
import Derived.Test.YtbmooemlekckbaaGreatDoorJ39
import Derived.Test.YtbmooemlekckbaaGreatDoorJ36
import Derived.Test.YtbmooemlekckbaaGreatDoorJ12
import Derived.Test.YtbmooemlekckbaaGreatDoorJ19
set_option linter.unusedVariables false

/- ints.Put. -/
namespace Go.Proofs.YtbmooemlekckbaaGreatDoor
open Go.RowKit

theorem ok_null {k : Int} {v : Val} (h : v.null = true) : okI k v = false := by unfold okI; rw [h]; rfl
theorem all_upto {l : List Val} {k : Int} {n : Nat} (hl : l.length = n) (h : ∀ (q : Nat) (v : Val), q < n → l[q]? = some v → okI k v = true) : l.all (okI k) = true := by
  rw [List.all_eq_true]
  intro v hv
  obtain ⟨q, hq⟩ := List.mem_iff_getElem?.1 hv
  exact h q v (by rw [← hl]; exact (List.getElem?_eq_some_iff.1 hq).1) hq
theorem all_bad {l : List Val} {k : Int} {q : Nat} {v : Val} (hv : l[q]? = some v) (h : okI k v = false) : l.all (okI k) = false := by
  rw [List.all_eq_false]
  exact ⟨v, List.mem_of_getElem? hv, by rw [h]; simp⟩
theorem put_bad {k : Int} {l : List Val} {r : List Int} {er : Int} {n : Nat} (hp : putIn k l = (r, er)) (hk : isNum k = true) (hl : l.length = n) (hn : n ≤ 4096) (h : l.all (okI k) = false) : r = [] ∧ er = 21 := by
  unfold putIn at hp
  rw [hk, if_neg (by simp), if_neg (by omega), if_pos h] at hp
  injection hp with h1 h2
  exact ⟨h1.symm, h2.symm⟩
theorem put_good {k : Int} {l : List Val} {r : List Int} {er : Int} {n : Nat} (hp : putIn k l = (r, er)) (hk : isNum k = true) (hl : l.length = n) (hn : n ≤ 4096) (h : l.all (okI k) = true) :
    (k = 1 ∧ putB (l.map fun v => decide (v.n = 1)) = (r, er)) ∨ (k = 5 ∧ r = (putGl (l.map fun v => v.n / 1000) true).1 ++ (putGl (l.map fun v => v.n % 1000) false).1 ∧ er = 0) ∨ (k ≠ 1 ∧ k ≠ 5 ∧ putGl (l.map fun v => v.n) true = (r, er)) := by
  unfold putIn at hp
  rw [hk, if_neg (by simp), if_neg (by omega), h, if_neg (by simp)] at hp
  split at hp
  · exact .inl ⟨‹_›, hp⟩
  · split at hp
    · injection hp with h1 h2
      exact .inr (.inl ⟨‹_›, h1.symm, h2.symm⟩)
    · exact .inr (.inr ⟨‹_›, ‹_›, hp⟩)

set_option maxRecDepth 100000 in
set_option maxHeartbeats 4000000 in
theorem PutIn_any (w : World) (k : Int) (A : Option Addr) (n cap : Nat) (l : List Val) (hr : Rv w A n l) (hf : ∀ v ∈ l, -9223372036854775808 ≤ v.n ∧ v.n < 9223372036854775808) (hn : n ≤ 100000) (r : List Int) (er : Int) (hp : putIn k l = (r, er)) :
    Calls Tryz.prog 7 #[.int .i64 k, .slice A n cap] w (BytesErr w r er) := by
  have HR := Lib.hid hr; have HN := Lib.hid hr.len; have HF := Lib.hid hf; have HP := Lib.hid hp
  clear hr hf hp
  cases hk : isNum k
  · have HK := Lib.hid hk
    have HZ : Hid (r = [] ∧ er = 1) := by
      have h := HP.out
      unfold putIn at h
      rw [hk, if_pos rfl] at h
      injection h with h1 h2
      exact ⟨h1.symm, h2.symm⟩
    clear hk
    go_enter Tryz.func7, Tryz.ntmps7
    go_wp2_with fail
    refine (Number_any _ _).mono ?_; rintro e w' ⟨rfl, rfl⟩
    rw [HK.out]
    go_wp2_with fail
    go_ret2
    obtain ⟨rfl, rfl⟩ := HZ.out
    exact ⟨_, _, _, rfl, Sl.nil _ _, Below.refl _ _⟩
  · have HK := Lib.hid hk
    clear hk
    by_cases hbig : 4096 < n
    · have HZ : Hid (r = [] ∧ er = 3) := by
        have h := HP.out
        unfold putIn at h
        rw [HK.out, if_neg (by simp), if_pos (by rw [HN.out]; exact hbig)] at h
        injection h with h1 h2
        exact ⟨h1.symm, h2.symm⟩
      go_enter Tryz.func7, Tryz.ntmps7
      go_wp2_with fail
      refine (Number_any _ _).mono ?_; rintro e w' ⟨rfl, rfl⟩
      rw [HK.out]
      go_wp2_with fail
      go_ret2
      obtain ⟨rfl, rfl⟩ := HZ.out
      exact ⟨_, _, _, rfl, Sl.nil _ _, Below.refl _ _⟩
    · have hn4 : n ≤ 4096 := by omega
      clear hbig
      go_enter Tryz.func7, Tryz.ntmps7
      go_wp2_with fail
      refine (Number_any _ _).mono ?_; rintro e w' ⟨rfl, rfl⟩
      rw [HK.out]
      go_wp2_with fail
      go_loopw [7, 21] (fun _ i wr => ∃ j : Nat, j ≤ n ∧ i = .int .i64 j ∧ Hid (∀ (q : Nat) (v : Val), q < j → l[q]? = some v → okI k v = true) ∧ Hid (Below w.heap.size w wr)) (fun _ i _ => n - (intOf i).toNat)
      case atStart => exact ⟨0, by omega, rfl, Lib.hid (fun q v h => absurd h (by omega)), Below.refl _ _⟩
      case round =>
        obtain ⟨j, hj, rfl, hz, hb⟩ := hrel
        by_cases hlt : j < n
        · obtain ⟨b, o, v, hA, hbl, hv, h1, h2, h3⟩ := HR.out.at_ hlt
          subst hA
          have g1 := (hb.out.cell (p := ⟨b, o + j * 3, none⟩) hbl).trans h1
          have g2 := (hb.out.cell (p := ⟨b, o + j * 3 + 1, none⟩) hbl).trans h2
          have g3 := (hb.out.cell (p := ⟨b, o + j * 3 + 2, none⟩) hbl).trans h3
          have hn2 := fit_at HF.out hv
          have HV := Lib.hid hv
          have hsz := hb.out.size
          clear h1 h2 h3 hv
          cases hvn : v.null
          · rw [hvn] at g1
            have HVN := Lib.hid hvn
            clear hvn
            go_wp2_with fail
            refine (May_any _ k HK.out v hn2 HVN.out).mono ?_; rintro e w2 ⟨rfl, hb2⟩
            have HB2 := Lib.hid (hb.out.trans (((Below.refl wr.heap.size wr).alloc (Nat.le_refl _) _).trans (hb2.mono (by simp)) |>.mono hsz))
            clear hb2
            cases hok : okI k v
            · have HBAD := Lib.hid (put_bad HP.out HK.out HN.out hn4 (all_bad HV.out hok))
              clear hok
              go_wp2_with fail
              go_ret2
              obtain ⟨rfl, rfl⟩ := HBAD.out
              exact ⟨_, _, _, rfl, Sl.nil _ _, HB2.out⟩
            · have HOK := Lib.hid hok
              clear hok
              go_wp2_with fail
              go_roundw
              case rel =>
                refine ⟨j + 1, by omega, by go_num, Lib.hid (fun q u h1 h2 => ?_), HB2⟩
                rcases Nat.lt_or_ge q j with h3 | h3
                · exact hz.out q u h3 h2
                · obtain rfl : q = j := by omega
                  rw [HV.out] at h2
                  injection h2 with h2
                  rw [← h2]; exact HOK.out
              case measure => simp [intOf] <;> omega
          · have HBAD := Lib.hid (put_bad HP.out HK.out HN.out hn4 (all_bad HV.out (ok_null hvn)))
            rw [hvn] at g1
            clear hvn
            go_wp2_with fail
            go_ret2
            obtain ⟨rfl, rfl⟩ := HBAD.out
            exact ⟨_, _, _, rfl, Sl.nil _ _, hb.out.alloc hsz _⟩
        · obtain rfl : j = n := by omega
          have HALL := Lib.hid (all_upto HN.out hz.out)
          have HI := Lib.hid (whole_i64 l HF.out)
          have HRW := Lib.hid (HR.out.below hb.out)
          have hgood := put_good HP.out HK.out HN.out hn4 HALL.out
          clear hz hlt
          rcases hgood with ⟨hk1, hput⟩ | ⟨hk5, hr5, he5⟩ | ⟨hk1, hk5, hput⟩
          · have t1 : (k == 1) = true := by simp [hk1]
            have HPUT := Lib.hid hput
            clear hk1 hput
            go_wp2_with fail
            refine (numbersOne_any _ _ _ _ l HRW.out HF.out (by omega)).mono ?_; rintro e w3 ⟨G3, n3, c3, rfl, hs3, hb3⟩
            have HB3 := Lib.hid (on hb.out hb3)
            have hn3 : n3 ≤ 1000000 := by have := hs3.1.len; rw [List.length_map] at this; have := HN.out; omega
            go_wp2_with fail
            refine (BPut_any _ _ _ _ _ hs3.1 hn3 r er HPUT.out).mono ?_; rintro e w4 ⟨G4, n4, c4, rfl, hs4, hb4⟩
            have HB4 := Lib.hid (on HB3.out hb4)
            have HS4 := Lib.hid hs4
            clear hs3 hb3 hs4 hb4
            go_wp2_with fail
            go_ret2
            exact ⟨_, _, _, rfl, HS4.out, HB4.out⟩
          · have t1 : (k == 1) = false := by simp [hk5]
            have t5 : (k == 5) = true := by simp [hk5]
            obtain ⟨p1, hp1, hp18, hp1l⟩ := gl_ok (l.map fun v => v.n / 1000) true HI.out.1 (keep_true _) (by rw [List.length_map, HN.out]; exact hn4)
            obtain ⟨p2, hp2, hp28, hp2l⟩ := gl_ok (l.map fun v => v.n % 1000) false HI.out.2.1 HI.out.2.2.2 (by rw [List.length_map, HN.out]; exact hn4)
            rw [hp1, hp2] at hr5
            have HP1 := Lib.hid hp1; have HP2 := Lib.hid hp2; have HR5 := Lib.hid (And.intro hr5 he5)
            clear hk5 hr5 he5 hp1 hp2 hp18 hp28
            go_wp2_with fail
            refine (numbersWhole_any _ _ _ _ l HRW.out HF.out (by omega)).mono ?_; rintro e w3 ⟨G3, n3, c3, rfl, hs3, hb3⟩
            have HB3 := Lib.hid (on hb.out hb3)
            have hn3 : n3 ≤ 1000000 := by have := hs3.1.len; rw [List.length_map] at this; have := HN.out; omega
            have HRW3 := Lib.hid (HRW.out.below hb3)
            have hc3 := hs3.2
            go_wp2_with fail
            refine (PutGl_own _ _ _ _ _ hs3.1 HI.out.1 hc3.1 hc3.2 hn3 true p1 0 HP1.out).mono ?_; rintro e w4 ⟨G4, n4, c4, rfl, ho4, hb4⟩
            have HB4 := Lib.hid (on HB3.out hb4)
            have HRW4 := Lib.hid (HRW3.out.below hb4)
            have HO4 := Lib.hid ho4
            have hn4' : n4 ≤ 50000 := by have := (Ri.of_own ho4).len; omega
            have HL4 := Lib.hid (Ri.of_own ho4).len
            have HB34 := Lib.hid hb4
            clear hs3 hb3 ho4 hb4 hc3
            go_wp2_with fail
            refine (numbersLeft_any _ _ _ _ l HRW4.out HF.out (by omega)).mono ?_; rintro e w5 ⟨G5, n5, c5, rfl, hs5, hb5⟩
            have hn5 : n5 ≤ 1000000 := by have := hs5.1.len; rw [List.length_map] at this; have := HN.out; omega
            have HB35 := Lib.hid (on HB34.out hb5)
            have HO5 := Lib.hid (own_below HO4.out hb5)
            have hc5 := hs5.2
            go_wp2_with fail
            refine (PutGl_any _ _ _ _ _ hs5.1 HI.out.2.1 hc5.1 hc5.2 hn5 false p2 0 HP2.out).mono ?_; rintro e w6 ⟨G6, n6, c6, rfl, hs6, hb6⟩
            have HB36 := Lib.hid (on HB35.out hb6)
            have HO6 := Lib.hid (own_below HO5.out hb6)
            have HS6 := Lib.hid hs6
            have hn6 : n6 ≤ 50000 := by have := hs6.1.len; omega
            have hz36 := HB36.out.size
            clear hs5 hb5 hs6 hb6 hc5
            go_wp2_with (at_builtin; refine wpList_u8 _ rfl _ _ rfl w3.heap.size _ n4 p1 rfl HO6.out _ n6 c6 p2 rfl HS6.out.1 (by omega) (by omega) ?_; intro G7 c7 w7 hown hgr hcc)
            have HOWN := Lib.hid hown
            have HB37 := Lib.hid (push0 HB36.out (Nat.le_refl _) HO6.out hgr)
            clear hown hgr
            go_wp2_with fail
            go_ret2
            obtain ⟨rfl, rfl⟩ := HR5.out
            exact ⟨_, _, _, rfl, Sl.of_own HOWN.out, on HB3.out HB37.out⟩
          · have t1 : (k == 1) = false := by simp [hk1]
            have t5 : (k == 5) = false := by simp [hk5]
            have HPUT := Lib.hid hput
            clear hk1 hk5 hput
            go_wp2_with fail
            refine (numbersSame_any _ _ _ _ l HRW.out HF.out (by omega)).mono ?_; rintro e w3 ⟨G3, n3, c3, rfl, hs3, hb3⟩
            have HB3 := Lib.hid (on hb.out hb3)
            have hn3 : n3 ≤ 1000000 := by have := hs3.1.len; rw [List.length_map] at this; have := HN.out; omega
            have hc3 := hs3.2
            go_wp2_with fail
            refine (PutGl_any _ _ _ _ _ hs3.1 HI.out.2.2.1 hc3.1 hc3.2 hn3 true r er HPUT.out).mono ?_; rintro e w4 ⟨G4, n4, c4, rfl, hs4, hb4⟩
            have HB4 := Lib.hid (on HB3.out hb4)
            have HS4 := Lib.hid hs4
            clear hs3 hb3 hs4 hb4 hc3
            go_wp2_with fail
            go_ret2
            exact ⟨_, _, _, rfl, HS4.out, HB4.out⟩
end Go.Proofs.YtbmooemlekckbaaGreatDoor

/- The reference of bits.Unpack: the rows that it hands back are its own (printed by wip/unpf.py out of XRefU). -/
namespace Go.Proofs.YtbmooemlekckbaaGreatDoor
open Go.RowKit

set_option maxRecDepth 100000 in
set_option maxHeartbeats 2000000 in
theorem refUnpackF_any (w : World) (A : Option Addr) (n cap : Nat) (l : List Int) (m x : Int) (hr : Ri w .u8 A n l) (hu : U8 l) (hc : n ≤ cap) (hn : n ≤ 1000000) (r1 r2 : List Int) (er : Int) (hp : unpackR l m x = (r1, r2, er)) :
    Calls Tryz.prog 104 #[.slice A n cap, .int .i64 m, .int .i64 x] w (UnpackNew w r1 r2 er) := by
  have HL := Lib.hid hr.len
  have HR := Lib.hid hr; clear hr
  have HU := Lib.hid hu; clear hu
  rcases (show m < 0 ∨ (0 ≤ m ∧ 4096 < m) ∨ (0 ≤ m ∧ m ≤ 4096 ∧ x < 0) ∨ (0 ≤ m ∧ m ≤ 4096 ∧ 0 ≤ x ∧ 64 < x) ∨ (0 ≤ m ∧ m ≤ 4096 ∧ 0 ≤ x ∧ x ≤ 64) by omega) with h | ⟨h1, h2⟩ | ⟨h1, h2, h3⟩ | ⟨h1, h2, h3, h4⟩ | ⟨h1, h2, h3, h4⟩
  case inr.inr.inr.inr =>
    have hf : fitsB m x = true := decide_eq_true (by omega)
    obtain ⟨k, rfl⟩ := Int.eq_ofNat_of_zero_le h3
    obtain ⟨M, rfl⟩ := Int.eq_ofNat_of_zero_le h1
    have hk : k ≤ 64 := by omega
    have hM : M ≤ 4096 := by omega
    clear h1 h2 h3 h4
    obtain ⟨N, hN⟩ : ∃ N, N = (M * k + 7) / 8 := ⟨_, rfl⟩
    have hMk : M * k ≤ 4096 * 64 := Nat.mul_le_mul (by omega) hk
    have hNle : N ≤ 32768 := by omega
    have hsz : Hid (sizeN M k = (N : Int)) := by
      show sizeN M k = _
      unfold sizeN
      rw [hf, if_pos rfl, hN]
      rw [← Int.natCast_mul]; omega
    unfold unpackR at hp
    rw [if_neg (by rw [hf]; simp), hsz.out, Int.toNat_natCast, HL.out, Int.toNat_natCast, Int.toNat_natCast] at hp
    have HN := Lib.hid hN; clear hN hf hMk
    by_cases hshort : n < N
    · rw [if_pos hshort] at hp
      injection hp with e1 e2; injection e2 with e2 e3
      subst e1 e2 e3
      go_enter Tryz.func104, Tryz.ntmps104
      go_wp2_with fail
      refine (refSize_any _ _ _).mono ?_; rintro e w' ⟨rfl, rfl⟩
      rw [hsz.out]
      go_wp2_with fail
      refine bodyPost_ret (results_tmp3 rfl _ _ _) rfl ?_
      exact UnpackNew.nil (Below.refl _ _)
    · rw [if_neg hshort] at hp
      simp only at hp
      obtain ⟨F, hF⟩ : ∃ F, F = packV (l.take N) 8 := ⟨_, rfl⟩
      have htl : (l.take N).length = N := by rw [List.length_take, HL.out]; omega
      have hFl : Hid (bytesOf F N = l.take N ∧ F < 256 ^ N) := by
        show _ ∧ _
        refine ⟨?_, ?_⟩
        · have h := bytesOf_packV (l.take N) (HU.out.take _)
          rw [← hF, htl] at h; exact h
        · have h := packV_lt (l.take N) 8 (fun y hy => by have := HU.out.take N y hy; omega)
          rw [← hF, htl] at h
          rwa [pow8, Nat.mul_comm 8]
      rw [← hF] at hp
      have HP := Lib.hid hp
      clear hp hF htl
      go_enter Tryz.func104, Tryz.ntmps104
      go_wp2_with fail
      refine (refSize_any _ _ _).mono ?_; rintro e w' ⟨rfl, rfl⟩
      rw [hsz.out]
      go_wp2_with fail
      go_loopw [10, 11, 12] (fun v a i wr => ∃ j p : Nat, j ≤ M ∧ i = .int .i64 j ∧ a = .int .i64 p ∧ Hid (p = j * k) ∧ Hid (wr.ownsRow w.heap.size 94 1 v j ((bitsL F (8 * N) k j).map (Value.int .u64))) ∧ Below w.heap.size w wr) (fun _ _ i _ => M - (intOf i).toNat)
      case atStart =>
        exact ⟨0, 0, by omega, rfl, rfl, by show 0 = 0 * k; omega, own_empty w _ 1, (Below.refl _ _).alloc (Nat.le_refl _) _⟩
      case round =>
        obtain ⟨j, p, hj, rfl, rfl, hpj, ho, hbw⟩ := hrel
        by_cases hlt : j < M
        · have hpk : p + k ≤ 8 * N := by
            have h1 : (j + 1) * k ≤ M * k := Nat.mul_le_mul_right _ hlt
            rw [Nat.add_mul, Nat.one_mul, ← hpj.out] at h1
            have := HN.out
            omega
          go_wp2_with fail
          go_loopw [11, 13, 14] (fun a v q wi => ∃ t : Nat, t ≤ k ∧ a = .int .i64 ((p + t : Nat) : Int) ∧ v = .int .u64 (bitsV F (8 * N) p t) ∧ q = .int .i64 t ∧ wi = wr) (fun _ _ q _ => k - (intOf q).toNat)
          case atStart => exact ⟨0, by omega, rfl, by unfold bitsV; rw [Nat.pow_zero, Nat.mod_one]; rfl, rfl, rfl⟩
          case round =>
            obtain ⟨t, ht, rfl, rfl, rfl, rfl⟩ := hrel
            by_cases hlt2 : t < k
            · obtain ⟨b, o, hA, hbl, hcell⟩ := HR.out.at_ (j := (p + t) / 8) (by omega)
              subst hA
              obtain ⟨y, hy, hyF⟩ : ∃ y : Nat, (y : Int) = l.getD ((p + t) / 8) 0 ∧ y = byteAt F N ((p + t) / 8) := by
                refine ⟨_, ?_, rfl⟩
                have h1 := congrArg (fun q => q[(p + t) / 8]?) hFl.out.1
                rw [bytesOf_get _ _ _ (by omega), List.getElem?_take_of_lt (by omega)] at h1
                simp only [List.getD]
                rw [← h1]; rfl
              obtain ⟨d, hd1, hd2, hd3, hd4⟩ := bit_step F N p t y (by omega) hyF (by omega)
              rw [← hy] at hcell
              have hc2 := (hbw.cell (p := ⟨b, o + (p + t) / 8, none⟩) hbl).trans hcell
              have hy8 : y < 256 := by rw [hyF]; exact byteAt_lt _ _ _
              have HD4 := Lib.hid hd4
              have hd0 : 0 ≤ bits BinOp.and IntKind.u8 ((y : Int) / 2 ^ (7 - (p + t) % 8)) 1 ∧ bits BinOp.and IntKind.u8 ((y : Int) / 2 ^ (7 - (p + t) % 8)) 1 < 2 := by rw [hd1]; omega
              have HD1 := Lib.hid hd1
              clear hcell hyF hd4 hy hd1
              generalize hvv : bitsV F (8 * N) p t = v at *
              clear hvv
              go_wp2_with fail
              go_roundw
              case rel =>
                refine ⟨t + 1, by omega, by go_num, ?_, by go_num, by trivial⟩
                rw [HD1.out, HD4.out]
              case measure => simp [intOf] <;> omega
            · obtain rfl : t = k := by omega
              obtain ⟨v, hv⟩ : ∃ v, v = bitsV F (8 * N) p t := ⟨_, rfl⟩
              rw [← hv]
              have hvl : v < 18446744073709551616 := by
                rw [hv]
                have h1 := bitsV_lt F (8 * N) p t
                have h2 : 2 ^ t ≤ 2 ^ 64 := Nat.pow_le_pow_right (by omega) hk
                omega
              have HV := Lib.hid hv; clear hv
              have hsz := hbw.size
              go_wp2_with (at_builtin; refine wpList_u64 _ rfl _ _ rfl w.heap.size _ j _ rfl (own_below ho.out ((Below.refl _ _).alloc (Nat.le_refl _) _)) _ 1 1 [(v : Int)] rfl (Rd.one _ _ _) (by omega) (by simp; omega) ?_; intro G c w1 hown hgr _)
              have HOWN := Lib.hid hown; clear hown
              go_wp2_with fail
              go_roundw
              case rel =>
                refine ⟨j + 1, p + t, by omega, by go_num, by go_num, Lib.hid ?_, Lib.hid ?_, push_ hbw (Nat.le_refl _) ho.out hgr⟩
                · rw [Nat.add_mul, Nat.one_mul, ← hpj.out]
                · rw [bitsL_snoc, ← hpj.out, ← HV.out]
                  exact HOWN.out
              case measure => simp [intOf] <;> omega
        · obtain rfl : j = M := by omega
          obtain ⟨G, c, rfl⟩ := own_form ho.out
          have hsl := Sl.of_own ho.out
          have HSL := Lib.hid hsl; clear hsl
          have HRL := Lib.hid (HR.out.below hbw)
          go_wp2_with fail
          refine (refPack_any _ _ _ _ _ _ HSL.out.1 (bits_u64 _ _ _ _ hk) (by omega) _ _ (pack_again F N k j hk hM HN.out hFl.out.2)).mono ?_; rintro e w1 ⟨G1, n1, c1, rfl, hr1, hb1⟩
          have hr2 := (HRL.out.below hb1).first (m := N) (by omega)
          rw [← hFl.out.1] at hr2
          have cv1 := fun nq => conv_any (w := w1.drewN nq) (c := c1) (hr1.1.drewN nq)
          have cv2 := fun nq => conv_any (w := w1.drewN nq) (c := cap) (hr2.drewN nq)
          have st := strOf_beq _ _ (bytesOf_u8 (F / 2 ^ (8 * N - j * k) * 2 ^ (8 * N - j * k)) N) (bytesOf_u8 F N)
          have hp := HP.out
          have hag := again_same F N (8 * N - j * k) hFl.out.2
          by_cases hz : F % 2 ^ (8 * N - j * k) = 0
          · rw [if_pos hz] at hp
            rw [decide_eq_true (hag.2 hz)] at st
            injection hp with e1 e2; injection e2 with e2 e3
            subst e1 e2 e3
            generalize strOf (bytesOf F N) = S1 at *
            generalize strOf (bytesOf (F / 2 ^ (8 * N - j * k) * 2 ^ (8 * N - j * k)) N) = S2 at *
            have HB1 := Lib.hid hb1
            clear hz hag hr1 hr2 hb1
            rcases Nat.eq_zero_or_pos n with hn0 | hn0
            · subst hn0
              obtain rfl : N = 0 := by omega
              obtain rfl : l = [] := List.eq_nil_of_length_eq_zero HL.out
              go_wp2_with fail
              go_quiet (fail)
              go_wp2_with (at_builtin; refine wpList_u8 _ rfl _ _ rfl w1.heap.size _ 0 [] rfl (own_empty (w1.drewN nq) _ 1) _ 0 _ [] rfl (Ri.nil _ _ _) (by omega) (by simp) ?_; intro G2 c2 w2 hown hgr _)
              all_goals
                have HOWN := Lib.hid hown; clear hown
                have hbf := push0 ((Below.refl (w1.drewN nq).heap.size (w1.drewN nq)).alloc (Nat.le_refl _) _) (Nat.le_refl _) (own_empty (w1.drewN nq) _ 1) hgr
                go_wp2_with fail
                refine bodyPost_ret (results_tmp3 rfl _ _ _) rfl ?_
                refine ⟨_, _, _, G2, _, c2, rfl, (((HSL.out.below HB1.out).drewN nq).below hbf), ?_, on (below_drewN (on hbw HB1.out) nq) hbf, own_below ho.out (on (below_drewN HB1.out nq) hbf), fun g o h => by subst h; exact Nat.le_trans (on hbw HB1.out).size (HOWN.out.lt g rfl).1⟩
                have h := Sl.of_own HOWN.out
                exact h
            · obtain ⟨b, o, hA, _⟩ := HR.out.all hn0
              subst hA
              have HQ := Lib.hid ((HRL.out.below HB1.out).restIf (i := N) (by omega) (cap := cap) hc)
              go_wp2_with fail
              go_quiet (fail)
              go_wp2_with (at_builtin; refine wpList_u8 _ rfl _ _ rfl w1.heap.size _ 0 [] rfl (own_empty (w1.drewN nq) _ 1) _ (n - N) _ (l.drop N) rfl ((HQ.out.drewN nq).alloc _) (by omega) (by simp) ?_; intro G2 c2 w2 hown hgr _)
              all_goals
                rw [Nat.zero_add, List.nil_append] at hown
                have HOWN := Lib.hid hown; clear hown
                have hbf := push0 ((Below.refl (w1.drewN nq).heap.size (w1.drewN nq)).alloc (Nat.le_refl _) _) (Nat.le_refl _) (own_empty (w1.drewN nq) _ 1) hgr
                go_wp2_with fail
                refine bodyPost_ret (results_tmp3 rfl _ _ _) rfl ?_
                exact ⟨_, _, _, G2, (n - N), c2, by first | rfl | (rw [Nat.zero_add]; rfl), (((HSL.out.below HB1.out).drewN nq).below hbf), Sl.of_own HOWN.out, on (below_drewN (on hbw HB1.out) nq) hbf, own_below ho.out (on (below_drewN HB1.out nq) hbf), fun g o h => by subst h; exact Nat.le_trans (on hbw HB1.out).size (HOWN.out.lt g rfl).1⟩
          · rw [if_neg hz] at hp
            rw [decide_eq_false (fun h => hz (hag.1 h))] at st
            injection hp with e1 e2; injection e2 with e2 e3
            subst e1 e2 e3
            generalize strOf (bytesOf F N) = S1 at *
            generalize strOf (bytesOf (F / 2 ^ (8 * N - j * k) * 2 ^ (8 * N - j * k)) N) = S2 at *
            clear hz hag hr1 hr2
            go_wp2_with fail
            go_quiet (fail)
            go_wp2_with fail
            refine bodyPost_ret (results_tmp3 rfl _ _ _) rfl ?_
            exact UnpackNew.nil (below_drewN (on hbw hb1) _)
  all_goals
    have HS : Hid (unpackR l m x = ([], [], 1)) := by
      show unpackR l m x = _
      unfold unpackR
      rw [show fitsB m x = false from decide_eq_false (by omega)]; rfl
    have hp := hp.symm.trans HS.out
    injection hp with e1 e2; injection e2 with e2 e3
    subst e1 e2 e3
    go_enter Tryz.func104, Tryz.ntmps104
    go_wp2_with fail
    refine bodyPost_ret (results_tmp3 rfl _ _ _) rfl ?_
    exact UnpackNew.nil (Below.refl _ _)
end Go.Proofs.YtbmooemlekckbaaGreatDoor

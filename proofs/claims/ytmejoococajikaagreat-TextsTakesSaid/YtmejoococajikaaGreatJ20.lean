/- Joined texts: DTake, RefUF. Each has its own head line. No condition beyond those that its theorems state. -/
import Derived.Test.YtmejoococajikaaGreatJ12
import Derived.Test.YtmejoococajikaaGreatJ17
import Derived.Test.YtmejoococajikaaGreatJ18
import Derived.Test.YtmejoococajikaaGreatJ14
set_option linter.unusedVariables false

/- direct.Take and its reference. -/
namespace Go.Proofs.YtmejoococajikaaGreat
open Go.RowKit

def takeD (b : List Int) (s : Bool) : List Int × List Int × Int :=
  if (lookR b).2.2.2.2 ≠ 0 ∨ (lookR b).1 ≠ 1 then ([], [], 2)
  else if (unpackR (lookR b).2.2.2.1 (lookR b).2.2.1 (wOf (lookR b).2.1)).2.2 ≠ 0 then ([], [], 2)
  else if (madeL (unpackR (lookR b).2.2.2.1 (lookR b).2.2.1 (wOf (lookR b).2.1)).1 s).2 ≠ 0 then ([], [], 2)
  else ((madeL (unpackR (lookR b).2.2.2.1 (lookR b).2.2.1 (wOf (lookR b).2.1)).1 s).1, (unpackR (lookR b).2.2.2.1 (lookR b).2.2.1 (wOf (lookR b).2.1)).2.1, 0)
/-- Numbers, bytes and an error's number are handed back. -/
def TakeOutD (w : World) (l1 l2 : List Int) (er : Int) (e : Ending) (w' : World) : Prop :=
  ∃ G n c G2 n2 c2, e = .returned (.tuple #[.slice G n c, .slice G2 n2 c2, .int .i64 er]) ∧ Sl w' .i64 G n c l1 ∧ Sl w' .u8 G2 n2 c2 l2 ∧ Below w.heap.size w w'
theorem lookR_good (b : List Int) (hu : U8 b) : U8 (lookR b).2.2.2.1 ∧ ((lookR b).2.2.2.2 = 0 ∨ (lookR b).2.2.2.2 = 2) ∧ (0 ≤ (lookR b).2.1 ∧ (lookR b).2.1 < 32) ∧ (lookR b).2.2.2.1.length ≤ b.length := by
  unfold lookR
  split
  · exact ⟨fun x hx => by (cases hx), .inr rfl, by simp, by simp⟩
  · exact ⟨fun x hx => hu x (List.mem_of_mem_drop hx), .inl rfl, ⟨by dsimp only; omega, by dsimp only; omega⟩, by simp⟩

set_option maxRecDepth 100000 in
set_option maxHeartbeats 1000000 in
theorem DTake_any (w : World) (A : Option Addr) (n cap : Nat) (b : List Int) (hr : Ri w .u8 A n b) (hu : U8 b) (hc : n ≤ cap) (hm : cap ≤ 9223372036854775807) (hn : n ≤ 1000000) (s : Bool) (l r : List Int) (er : Int) (hl : takeD b s = (l, r, er)) :
    Calls Tryz.prog 140 #[.slice A n cap, .bool s] w (TakeOutD w l r er) := by
  have HR := Lib.hid hr; have HU := Lib.hid hu; have HN := Lib.hid hr.len
  obtain ⟨g1, g2, g3, g4⟩ := lookR_good b hu
  rw [hr.len] at g4
  unfold takeD at hl
  clear hr hu
  obtain ⟨k, c, m, q, e1, hlk⟩ : ∃ k c m q e1, lookR b = (k, c, m, q, e1) := ⟨_, _, _, _, _, rfl⟩
  rw [hlk] at hl g1 g2 g3 g4
  dsimp only at hl g1 g2 g3 g4
  have HLK := Lib.hid hlk; have HU1 := Lib.hid g1
  clear hlk g1
  by_cases h1 : e1 ≠ 0 ∨ k ≠ 1
  · rw [if_pos h1] at hl
    injection hl with a1 hl; injection hl with a2 a3
    subst a1 a2 a3
    have hcase : e1 = 2 ∨ (e1 = 0 ∧ ¬ k = 1) := by omega
    clear h1 g2 g3 g4
    rcases hcase with rfl | ⟨rfl, hk⟩
    all_goals
      go_enter Tryz.func140, Tryz.ntmps140
      go_wp2_with fail
      refine (Look_any _ _ _ _ b HR.out HU.out hc hm hn k c m q _ HLK.out).mono ?_; rintro e w1 ⟨G1, n1, c1, rfl, hs1, hb1⟩
      go_wp2_with fail
      go_returns
      exact ⟨none, 0, 0, none, 0, 0, rfl, Sl.nil _ _, Sl.nil _ _, hb1⟩
  · rw [if_neg h1] at hl
    obtain ⟨rfl, rfl⟩ : e1 = 0 ∧ k = 1 := by omega
    obtain ⟨u, t, e2, hup⟩ : ∃ u t e2, unpackR q m (wOf c) = (u, t, e2) := ⟨_, _, _, rfl⟩
    have gu := unpackR_u64 q m (wOf c); have gl := unpackR_len q m (wOf c)
    rw [hup] at hl gu gl
    dsimp only at hl gu gl
    have HUP := Lib.hid hup; have HU2 := Lib.hid gu
    clear hup gu h1 g2
    by_cases h2 : e2 ≠ 0
    · rw [if_pos h2] at hl
      injection hl with a1 hl; injection hl with a2 a3
      subst a1 a2 a3
      have h2' : ¬ e2 = 0 := h2
      clear h2
      go_enter Tryz.func140, Tryz.ntmps140
      go_wp2_with fail
      refine (Look_any _ _ _ _ b HR.out HU.out hc hm hn 1 c m q 0 HLK.out).mono ?_; rintro e w1 ⟨G1, n1, c1, rfl, hs1, hb1⟩
      have hn1 := hs1.1.len
      go_wp2_with fail
      refine (Of_any _ _).mono ?_; rintro e wo ⟨rfl, hbo⟩
      go_wp2_with fail
      refine (Unpack_any _ _ _ _ q m (wOf c) (hs1.1.below hbo) HU1.out hs1.2.1 (by omega) u t e2 HUP.out).mono ?_; rintro e w2 ⟨G2, n2, c2, G3, n3, c3, rfl, hs2, hs3, hb2⟩
      go_wp2_with fail
      go_returns
      exact ⟨none, 0, 0, none, 0, 0, rfl, Sl.nil _ _, Sl.nil _ _, on (on hb1 hbo) hb2⟩
    · rw [if_neg h2] at hl
      obtain rfl : e2 = 0 := by omega
      obtain ⟨p, e3, hmd⟩ : ∃ p e3, madeL u s = (p, e3) := ⟨_, _, rfl⟩
      rw [hmd] at hl
      dsimp only at hl
      have HMD := Lib.hid hmd
      clear hmd h2
      have h3c : Hid (e3 ≠ 0 ∧ e3 = 2 ∧ l = [] ∧ r = [] ∧ er = 2 ∨ e3 = 0 ∧ l = p ∧ r = t ∧ er = 0) := by
        by_cases h3 : e3 ≠ 0
        · rw [if_pos h3] at hl
          injection hl with a1 hl; injection hl with a2 a3
          have h4 : e3 = 2 := by
            have := HMD.out
            unfold madeL mapOk at this
            cases s
            · rw [if_neg (by simp)] at this
              split at this
              · injection this with _ h; omega
              · injection this with _ h; omega
            · rw [if_pos rfl] at this
              split at this
              · injection this with _ h; omega
              · injection this with _ h; omega
          exact .inl ⟨h3, h4, a1.symm, a2.symm, a3.symm⟩
        · rw [if_neg h3] at hl
          injection hl with a1 hl; injection hl with a2 a3
          exact .inr ⟨by omega, a1.symm, a2.symm, a3.symm⟩
      clear hl
      rcases h3c.out with ⟨_, rfl, rfl, rfl, rfl⟩ | ⟨rfl, rfl, rfl, rfl⟩
      all_goals
        clear h3c
        go_enter Tryz.func140, Tryz.ntmps140
        go_wp2_with fail
        refine (Look_any _ _ _ _ b HR.out HU.out hc hm hn 1 c m q 0 HLK.out).mono ?_; rintro e w1 ⟨G1, n1, c1, rfl, hs1, hb1⟩
        have hn1 := hs1.1.len
        go_wp2_with fail
        refine (Of_any _ _).mono ?_; rintro e wo ⟨rfl, hbo⟩
        go_wp2_with fail
        refine (Unpack_any _ _ _ _ q m (wOf c) (hs1.1.below hbo) HU1.out hs1.2.1 (by omega) u _ 0 HUP.out).mono ?_; rintro e w2 ⟨G2, n2, c2, G3, n3, c3, rfl, hs2, hs3, hb2⟩
        have hn2 := hs2.1.len
        go_wp2_with fail
        refine (Made_any _ _ _ _ u hs2.1 HU2.out (by omega) s _ _ HMD.out).mono ?_; rintro e w3 ⟨G4, n4, c4, rfl, hs4, hb4⟩
        go_wp2_with fail
        go_returns
        first
          | exact ⟨none, 0, 0, none, 0, 0, rfl, Sl.nil _ _, Sl.nil _ _, on (on (on hb1 hbo) hb2) hb4⟩
          | exact ⟨_, _, _, _, _, _, rfl, hs4, hs3.below hb4, on (on (on hb1 hbo) hb2) hb4⟩

set_option maxRecDepth 100000 in
set_option maxHeartbeats 1000000 in
theorem refDTake_any (w : World) (A : Option Addr) (n cap : Nat) (b : List Int) (hr : Ri w .u8 A n b) (hu : U8 b) (hc : n ≤ cap) (hm : cap ≤ 9223372036854775807) (hn : n ≤ 1000000) (s : Bool) (l r : List Int) (er : Int) (hl : takeD b s = (l, r, er)) :
    Calls Tryz.prog 71 #[.slice A n cap, .bool s] w (TakeOutD w l r er) := by
  have HR := Lib.hid hr; have HU := Lib.hid hu; have HN := Lib.hid hr.len
  obtain ⟨g1, g2, g3, g4⟩ := lookR_good b hu
  rw [hr.len] at g4
  unfold takeD at hl
  clear hr hu
  obtain ⟨k, c, m, q, e1, hlk⟩ : ∃ k c m q e1, lookR b = (k, c, m, q, e1) := ⟨_, _, _, _, _, rfl⟩
  rw [hlk] at hl g1 g2 g3 g4
  dsimp only at hl g1 g2 g3 g4
  have HLK := Lib.hid hlk; have HU1 := Lib.hid g1
  clear hlk g1
  by_cases h1 : e1 ≠ 0 ∨ k ≠ 1
  · rw [if_pos h1] at hl
    injection hl with a1 hl; injection hl with a2 a3
    subst a1 a2 a3
    have hcase : e1 = 2 ∨ (e1 = 0 ∧ ¬ k = 1) := by omega
    clear h1 g2 g3 g4
    rcases hcase with rfl | ⟨rfl, hk⟩
    all_goals
      go_enter Tryz.func71, Tryz.ntmps71
      go_wp2_with fail
      refine (refLook_any _ _ _ _ b HR.out HU.out hc hm hn k c m q _ HLK.out).mono ?_; rintro e w1 ⟨G1, n1, c1, rfl, hs1, hb1⟩
      go_wp2_with fail
      go_returns
      exact ⟨none, 0, 0, none, 0, 0, rfl, Sl.nil _ _, Sl.nil _ _, hb1⟩
  · rw [if_neg h1] at hl
    obtain ⟨rfl, rfl⟩ : e1 = 0 ∧ k = 1 := by omega
    obtain ⟨u, t, e2, hup⟩ : ∃ u t e2, unpackR q m (wOf c) = (u, t, e2) := ⟨_, _, _, rfl⟩
    have gu := unpackR_u64 q m (wOf c); have gl := unpackR_len q m (wOf c)
    rw [hup] at hl gu gl
    dsimp only at hl gu gl
    have HUP := Lib.hid hup; have HU2 := Lib.hid gu
    clear hup gu h1 g2
    by_cases h2 : e2 ≠ 0
    · rw [if_pos h2] at hl
      injection hl with a1 hl; injection hl with a2 a3
      subst a1 a2 a3
      have h2' : ¬ e2 = 0 := h2
      clear h2
      go_enter Tryz.func71, Tryz.ntmps71
      go_wp2_with fail
      refine (refLook_any _ _ _ _ b HR.out HU.out hc hm hn 1 c m q 0 HLK.out).mono ?_; rintro e w1 ⟨G1, n1, c1, rfl, hs1, hb1⟩
      have hn1 := hs1.1.len
      go_wp2_with fail
      refine (refOf_any _ _ (by omega) (by omega)).mono ?_; rintro e w' ⟨rfl, rfl⟩
      have hbo := Below.refl w1.heap.size w1
      go_wp2_with fail
      refine (refUnpack_any _ _ _ _ q m (wOf c) (hs1.1.below hbo) HU1.out hs1.2.1 (by omega) u t e2 HUP.out).mono ?_; rintro e w2 ⟨G2, n2, c2, G3, n3, c3, rfl, hs2, hs3, hb2⟩
      go_wp2_with fail
      go_returns
      exact ⟨none, 0, 0, none, 0, 0, rfl, Sl.nil _ _, Sl.nil _ _, on (on hb1 hbo) hb2⟩
    · rw [if_neg h2] at hl
      obtain rfl : e2 = 0 := by omega
      obtain ⟨p, e3, hmd⟩ : ∃ p e3, madeL u s = (p, e3) := ⟨_, _, rfl⟩
      rw [hmd] at hl
      dsimp only at hl
      have HMD := Lib.hid hmd
      clear hmd h2
      have h3c : Hid (e3 ≠ 0 ∧ e3 = 2 ∧ l = [] ∧ r = [] ∧ er = 2 ∨ e3 = 0 ∧ l = p ∧ r = t ∧ er = 0) := by
        by_cases h3 : e3 ≠ 0
        · rw [if_pos h3] at hl
          injection hl with a1 hl; injection hl with a2 a3
          have h4 : e3 = 2 := by
            have := HMD.out
            unfold madeL mapOk at this
            cases s
            · rw [if_neg (by simp)] at this
              split at this
              · injection this with _ h; omega
              · injection this with _ h; omega
            · rw [if_pos rfl] at this
              split at this
              · injection this with _ h; omega
              · injection this with _ h; omega
          exact .inl ⟨h3, h4, a1.symm, a2.symm, a3.symm⟩
        · rw [if_neg h3] at hl
          injection hl with a1 hl; injection hl with a2 a3
          exact .inr ⟨by omega, a1.symm, a2.symm, a3.symm⟩
      clear hl
      rcases h3c.out with ⟨_, rfl, rfl, rfl, rfl⟩ | ⟨rfl, rfl, rfl, rfl⟩
      all_goals
        clear h3c
        go_enter Tryz.func71, Tryz.ntmps71
        go_wp2_with fail
        refine (refLook_any _ _ _ _ b HR.out HU.out hc hm hn 1 c m q 0 HLK.out).mono ?_; rintro e w1 ⟨G1, n1, c1, rfl, hs1, hb1⟩
        have hn1 := hs1.1.len
        go_wp2_with fail
        refine (refOf_any _ _ (by omega) (by omega)).mono ?_; rintro e w' ⟨rfl, rfl⟩
        have hbo := Below.refl w1.heap.size w1
        go_wp2_with fail
        refine (refUnpack_any _ _ _ _ q m (wOf c) (hs1.1.below hbo) HU1.out hs1.2.1 (by omega) u _ 0 HUP.out).mono ?_; rintro e w2 ⟨G2, n2, c2, G3, n3, c3, rfl, hs2, hs3, hb2⟩
        have hn2 := hs2.1.len
        go_wp2_with fail
        refine (refMade8_any _ _ _ _ u hs2.1 HU2.out (by omega) s _ _ HMD.out).mono ?_; rintro e w3 ⟨G4, n4, c4, rfl, hs4, hb4⟩
        go_wp2_with fail
        go_returns
        first
          | exact ⟨none, 0, 0, none, 0, 0, rfl, Sl.nil _ _, Sl.nil _ _, on (on (on hb1 hbo) hb2) hb4⟩
          | exact ⟨_, _, _, _, _, _, rfl, hs4, hs3.below hb4, on (on (on hb1 hbo) hb2) hb4⟩
end Go.Proofs.YtmejoococajikaaGreat

/- The reference of bits.Unpack: the rows that it hands back are its own (printed by wip/unpf.py out of XRefU). -/
namespace Go.Proofs.YtmejoococajikaaGreat
open Go.RowKit

set_option maxRecDepth 100000 in
set_option maxHeartbeats 2000000 in
theorem refUnpackF_any (w : World) (A : Option Addr) (n cap : Nat) (l : List Int) (m x : Int) (hr : Ri w .u8 A n l) (hu : U8 l) (hc : n ≤ cap) (hn : n ≤ 1000000) (r1 r2 : List Int) (er : Int) (hp : unpackR l m x = (r1, r2, er)) :
    Calls Tryz.prog 111 #[.slice A n cap, .int .i64 m, .int .i64 x] w (UnpackNew w r1 r2 er) := by
  have HL := Lib.hid hr.len
  have HR := Lib.hid hr; clear hr
  have HU := Lib.hid hu; clear hu
  rcases (show m < 0 ∨ (0 ≤ m ∧ 4096 < m) ∨ (0 ≤ m ∧ m ≤ 4096 ∧ x < 0) ∨ (0 ≤ m ∧ m ≤ 4096 ∧ 0 ≤ x ∧ 64 < x) ∨ (0 ≤ m ∧ m ≤ 4096 ∧ 0 ≤ x ∧ x ≤ 64) by omega) with h | ⟨h1, h2⟩ | ⟨h1, h2, h3⟩ | ⟨h1, h2, h3, h4⟩ | ⟨h1, h2, h3, h4⟩
  case inr.inr.inr.inr =>
    have hf : fitsB m x = true := decide_eq_true (by omega)
    obtain ⟨k, rfl⟩ := Int.eq_ofNat_of_zero_le h3
    obtain ⟨M, rfl⟩ := Int.eq_ofNat_of_zero_le h1
    have hk : k ≤ 64 := by omega
    have hM : M ≤ 4096 := by omega
    clear h1 h2 h3 h4
    obtain ⟨N, hN⟩ : ∃ N, N = (M * k + 7) / 8 := ⟨_, rfl⟩
    have hMk : M * k ≤ 4096 * 64 := Nat.mul_le_mul (by omega) hk
    have hNle : N ≤ 32768 := by omega
    have hsz : Hid (sizeN M k = (N : Int)) := by
      show sizeN M k = _
      unfold sizeN
      rw [hf, if_pos rfl, hN]
      rw [← Int.natCast_mul]; omega
    unfold unpackR at hp
    rw [if_neg (by rw [hf]; simp), hsz.out, Int.toNat_natCast, HL.out, Int.toNat_natCast, Int.toNat_natCast] at hp
    have HN := Lib.hid hN; clear hN hf hMk
    by_cases hshort : n < N
    · rw [if_pos hshort] at hp
      injection hp with e1 e2; injection e2 with e2 e3
      subst e1 e2 e3
      go_enter Tryz.func111, Tryz.ntmps111
      go_wp2_with fail
      refine (refSize_any _ _ _).mono ?_; rintro e w' ⟨rfl, rfl⟩
      rw [hsz.out]
      go_wp2_with fail
      refine bodyPost_ret (results_tmp3 rfl _ _ _) rfl ?_
      exact UnpackNew.nil (Below.refl _ _)
    · rw [if_neg hshort] at hp
      simp only at hp
      obtain ⟨F, hF⟩ : ∃ F, F = packV (l.take N) 8 := ⟨_, rfl⟩
      have htl : (l.take N).length = N := by rw [List.length_take, HL.out]; omega
      have hFl : Hid (bytesOf F N = l.take N ∧ F < 256 ^ N) := by
        show _ ∧ _
        refine ⟨?_, ?_⟩
        · have h := bytesOf_packV (l.take N) (HU.out.take _)
          rw [← hF, htl] at h; exact h
        · have h := packV_lt (l.take N) 8 (fun y hy => by have := HU.out.take N y hy; omega)
          rw [← hF, htl] at h
          rwa [pow8, Nat.mul_comm 8]
      rw [← hF] at hp
      have HP := Lib.hid hp
      clear hp hF htl
      go_enter Tryz.func111, Tryz.ntmps111
      go_wp2_with fail
      refine (refSize_any _ _ _).mono ?_; rintro e w' ⟨rfl, rfl⟩
      rw [hsz.out]
      go_wp2_with fail
      go_loopw [10, 11, 12] (fun v a i wr => ∃ j p : Nat, j ≤ M ∧ i = .int .i64 j ∧ a = .int .i64 p ∧ Hid (p = j * k) ∧ Hid (wr.ownsRow w.heap.size 109 1 v j ((bitsL F (8 * N) k j).map (Value.int .u64))) ∧ Below w.heap.size w wr) (fun _ _ i _ => M - (intOf i).toNat)
      case atStart =>
        exact ⟨0, 0, by omega, rfl, rfl, by show 0 = 0 * k; omega, own_empty w _ 1, (Below.refl _ _).alloc (Nat.le_refl _) _⟩
      case round =>
        obtain ⟨j, p, hj, rfl, rfl, hpj, ho, hbw⟩ := hrel
        by_cases hlt : j < M
        · have hpk : p + k ≤ 8 * N := by
            have h1 : (j + 1) * k ≤ M * k := Nat.mul_le_mul_right _ hlt
            rw [Nat.add_mul, Nat.one_mul, ← hpj.out] at h1
            have := HN.out
            omega
          go_wp2_with fail
          go_loopw [11, 13, 14] (fun a v q wi => ∃ t : Nat, t ≤ k ∧ a = .int .i64 ((p + t : Nat) : Int) ∧ v = .int .u64 (bitsV F (8 * N) p t) ∧ q = .int .i64 t ∧ wi = wr) (fun _ _ q _ => k - (intOf q).toNat)
          case atStart => exact ⟨0, by omega, rfl, by unfold bitsV; rw [Nat.pow_zero, Nat.mod_one]; rfl, rfl, rfl⟩
          case round =>
            obtain ⟨t, ht, rfl, rfl, rfl, rfl⟩ := hrel
            by_cases hlt2 : t < k
            · obtain ⟨b, o, hA, hbl, hcell⟩ := HR.out.at_ (j := (p + t) / 8) (by omega)
              subst hA
              obtain ⟨y, hy, hyF⟩ : ∃ y : Nat, (y : Int) = l.getD ((p + t) / 8) 0 ∧ y = byteAt F N ((p + t) / 8) := by
                refine ⟨_, ?_, rfl⟩
                have h1 := congrArg (fun q => q[(p + t) / 8]?) hFl.out.1
                rw [bytesOf_get _ _ _ (by omega), List.getElem?_take_of_lt (by omega)] at h1
                simp only [List.getD]
                rw [← h1]; rfl
              obtain ⟨d, hd1, hd2, hd3, hd4⟩ := bit_step F N p t y (by omega) hyF (by omega)
              rw [← hy] at hcell
              have hc2 := (hbw.cell (p := ⟨b, o + (p + t) / 8, none⟩) hbl).trans hcell
              have hy8 : y < 256 := by rw [hyF]; exact byteAt_lt _ _ _
              have HD4 := Lib.hid hd4
              have hd0 : 0 ≤ bits BinOp.and IntKind.u8 ((y : Int) / 2 ^ (7 - (p + t) % 8)) 1 ∧ bits BinOp.and IntKind.u8 ((y : Int) / 2 ^ (7 - (p + t) % 8)) 1 < 2 := by rw [hd1]; omega
              have HD1 := Lib.hid hd1
              clear hcell hyF hd4 hy hd1
              generalize hvv : bitsV F (8 * N) p t = v at *
              clear hvv
              go_wp2_with fail
              go_roundw
              case rel =>
                refine ⟨t + 1, by omega, by go_num, ?_, by go_num, by trivial⟩
                rw [HD1.out, HD4.out]
              case measure => simp [intOf] <;> omega
            · obtain rfl : t = k := by omega
              obtain ⟨v, hv⟩ : ∃ v, v = bitsV F (8 * N) p t := ⟨_, rfl⟩
              rw [← hv]
              have hvl : v < 18446744073709551616 := by
                rw [hv]
                have h1 := bitsV_lt F (8 * N) p t
                have h2 : 2 ^ t ≤ 2 ^ 64 := Nat.pow_le_pow_right (by omega) hk
                omega
              have HV := Lib.hid hv; clear hv
              have hsz := hbw.size
              go_wp2_with (at_builtin; refine wpList_u64 _ rfl _ _ rfl w.heap.size _ j _ rfl (own_below ho.out ((Below.refl _ _).alloc (Nat.le_refl _) _)) _ 1 1 [(v : Int)] rfl (Rd.one _ _ _) (by omega) (by simp; omega) ?_; intro G c w1 hown hgr _)
              have HOWN := Lib.hid hown; clear hown
              go_wp2_with fail
              go_roundw
              case rel =>
                refine ⟨j + 1, p + t, by omega, by go_num, by go_num, Lib.hid ?_, Lib.hid ?_, push_ hbw (Nat.le_refl _) ho.out hgr⟩
                · rw [Nat.add_mul, Nat.one_mul, ← hpj.out]
                · rw [bitsL_snoc, ← hpj.out, ← HV.out]
                  exact HOWN.out
              case measure => simp [intOf] <;> omega
        · obtain rfl : j = M := by omega
          obtain ⟨G, c, rfl⟩ := own_form ho.out
          have hsl := Sl.of_own ho.out
          have HSL := Lib.hid hsl; clear hsl
          have HRL := Lib.hid (HR.out.below hbw)
          go_wp2_with fail
          refine (refPack_any _ _ _ _ _ _ HSL.out.1 (bits_u64 _ _ _ _ hk) (by omega) _ _ (pack_again F N k j hk hM HN.out hFl.out.2)).mono ?_; rintro e w1 ⟨G1, n1, c1, rfl, hr1, hb1⟩
          have hr2 := (HRL.out.below hb1).first (m := N) (by omega)
          rw [← hFl.out.1] at hr2
          have cv1 := fun nq => conv_any (w := w1.drewN nq) (c := c1) (hr1.1.drewN nq)
          have cv2 := fun nq => conv_any (w := w1.drewN nq) (c := cap) (hr2.drewN nq)
          have st := strOf_beq _ _ (bytesOf_u8 (F / 2 ^ (8 * N - j * k) * 2 ^ (8 * N - j * k)) N) (bytesOf_u8 F N)
          have hp := HP.out
          have hag := again_same F N (8 * N - j * k) hFl.out.2
          by_cases hz : F % 2 ^ (8 * N - j * k) = 0
          · rw [if_pos hz] at hp
            rw [decide_eq_true (hag.2 hz)] at st
            injection hp with e1 e2; injection e2 with e2 e3
            subst e1 e2 e3
            generalize strOf (bytesOf F N) = S1 at *
            generalize strOf (bytesOf (F / 2 ^ (8 * N - j * k) * 2 ^ (8 * N - j * k)) N) = S2 at *
            have HB1 := Lib.hid hb1
            clear hz hag hr1 hr2 hb1
            rcases Nat.eq_zero_or_pos n with hn0 | hn0
            · subst hn0
              obtain rfl : N = 0 := by omega
              obtain rfl : l = [] := List.eq_nil_of_length_eq_zero HL.out
              go_wp2_with fail
              go_quiet (fail)
              go_wp2_with (at_builtin; refine wpList_u8 _ rfl _ _ rfl w1.heap.size _ 0 [] rfl (own_empty (w1.drewN nq) _ 1) _ 0 _ [] rfl (Ri.nil _ _ _) (by omega) (by simp) ?_; intro G2 c2 w2 hown hgr _)
              all_goals
                have HOWN := Lib.hid hown; clear hown
                have hbf := push0 ((Below.refl (w1.drewN nq).heap.size (w1.drewN nq)).alloc (Nat.le_refl _) _) (Nat.le_refl _) (own_empty (w1.drewN nq) _ 1) hgr
                go_wp2_with fail
                refine bodyPost_ret (results_tmp3 rfl _ _ _) rfl ?_
                refine ⟨_, _, _, G2, _, c2, rfl, (((HSL.out.below HB1.out).drewN nq).below hbf), ?_, on (below_drewN (on hbw HB1.out) nq) hbf, own_below ho.out (on (below_drewN HB1.out nq) hbf), fun g o h => by subst h; exact Nat.le_trans (on hbw HB1.out).size (HOWN.out.lt g rfl).1⟩
                have h := Sl.of_own HOWN.out
                exact h
            · obtain ⟨b, o, hA, _⟩ := HR.out.all hn0
              subst hA
              have HQ := Lib.hid ((HRL.out.below HB1.out).restIf (i := N) (by omega) (cap := cap) hc)
              go_wp2_with fail
              go_quiet (fail)
              go_wp2_with (at_builtin; refine wpList_u8 _ rfl _ _ rfl w1.heap.size _ 0 [] rfl (own_empty (w1.drewN nq) _ 1) _ (n - N) _ (l.drop N) rfl ((HQ.out.drewN nq).alloc _) (by omega) (by simp) ?_; intro G2 c2 w2 hown hgr _)
              all_goals
                rw [Nat.zero_add, List.nil_append] at hown
                have HOWN := Lib.hid hown; clear hown
                have hbf := push0 ((Below.refl (w1.drewN nq).heap.size (w1.drewN nq)).alloc (Nat.le_refl _) _) (Nat.le_refl _) (own_empty (w1.drewN nq) _ 1) hgr
                go_wp2_with fail
                refine bodyPost_ret (results_tmp3 rfl _ _ _) rfl ?_
                exact ⟨_, _, _, G2, (n - N), c2, by first | rfl | (rw [Nat.zero_add]; rfl), (((HSL.out.below HB1.out).drewN nq).below hbf), Sl.of_own HOWN.out, on (below_drewN (on hbw HB1.out) nq) hbf, own_below ho.out (on (below_drewN HB1.out nq) hbf), fun g o h => by subst h; exact Nat.le_trans (on hbw HB1.out).size (HOWN.out.lt g rfl).1⟩
          · rw [if_neg hz] at hp
            rw [decide_eq_false (fun h => hz (hag.1 h))] at st
            injection hp with e1 e2; injection e2 with e2 e3
            subst e1 e2 e3
            generalize strOf (bytesOf F N) = S1 at *
            generalize strOf (bytesOf (F / 2 ^ (8 * N - j * k) * 2 ^ (8 * N - j * k)) N) = S2 at *
            clear hz hag hr1 hr2
            go_wp2_with fail
            go_quiet (fail)
            go_wp2_with fail
            refine bodyPost_ret (results_tmp3 rfl _ _ _) rfl ?_
            exact UnpackNew.nil (below_drewN (on hbw hb1) _)
  all_goals
    have HS : Hid (unpackR l m x = ([], [], 1)) := by
      show unpackR l m x = _
      unfold unpackR
      rw [show fitsB m x = false from decide_eq_false (by omega)]; rfl
    have hp := hp.symm.trans HS.out
    injection hp with e1 e2; injection e2 with e2 e3
    subst e1 e2 e3
    go_enter Tryz.func111, Tryz.ntmps111
    go_wp2_with fail
    refine bodyPost_ret (results_tmp3 rfl _ _ _) rfl ?_
    exact UnpackNew.nil (Below.refl _ _)
end Go.Proofs.YtmejoococajikaaGreat

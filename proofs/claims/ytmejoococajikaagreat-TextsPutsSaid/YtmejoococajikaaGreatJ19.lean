/- Joined texts: RefU. Each has its own head line. No condition beyond those that its theorems state. -/
import Derived.Test.YtmejoococajikaaGreatJ18
import Derived.Test.YtmejoococajikaaGreatJ09
set_option linter.unusedVariables false

/- The reference of bits.Unpack. -/
namespace Go.Proofs.YtmejoococajikaaGreat
open Go.RowKit

/-- Two rows are handed back: numbers, bytes, and the error. -/
def UnpackOut (w : World) (l1 l2 : List Int) (er : Int) (e : Ending) (w' : World) : Prop :=
  ∃ G n c G2 n2 c2, e = .returned (.tuple #[.slice G n c, .slice G2 n2 c2, .int .i64 er]) ∧ Sl w' .u64 G n c l1 ∧ Sl w' .u8 G2 n2 c2 l2 ∧ Below w.heap.size w w'
theorem UnpackOut.nil {w w' : World} {er : Int} (h : Below w.heap.size w w') : UnpackOut w [] [] er (.returned (.tuple #[.slice none 0 0, .slice none 0 0, .int .i64 er])) w' :=
  ⟨none, 0, 0, none, 0, 0, rfl, Sl.nil _ _, Sl.nil _ _, h⟩
theorem bits_room (F T x m : Nat) (_hx : x ≤ 64) : (bitsL F T x m).all (roomB x) = true := by
  rw [List.all_eq_true]
  intro y hy
  obtain ⟨i, _, rfl⟩ := List.mem_map.1 hy
  refine decide_eq_true (.inr ?_)
  rw [Int.toNat_natCast]; exact bitsV_lt _ _ _ _
theorem bits_u64 (F T x m : Nat) (hx : x ≤ 64) : U64 (bitsL F T x m) := by
  intro y hy
  obtain ⟨i, _, rfl⟩ := List.mem_map.1 hy
  have h1 := bitsV_lt F T (i * x) x
  have h2 : 2 ^ x ≤ 2 ^ 64 := Nat.pow_le_pow_right (by omega) hx
  omega
/-- Packed anew. -/
theorem pack_again (F N x m : Nat) (hx : x ≤ 64) (hm : m ≤ 4096) (hN : N = (m * x + 7) / 8) (hF : F < 256 ^ N) :
    packR (bitsL F (8 * N) x m) x = (bytesOf (F / 2 ^ (8 * N - m * x) * 2 ^ (8 * N - m * x)) N, 0) := by
  unfold packR
  rw [if_neg (by omega), bitsL_len, if_neg (by omega), Int.toNat_natCast, if_pos (bits_room _ _ _ _ hx), packV_bitsL _ _ _ _ (by rwa [← pow8]) (by omega), ← hN]
theorem again_same (F N k : Nat) (hF : F < 256 ^ N) : bytesOf (F / 2 ^ k * 2 ^ k) N = bytesOf F N ↔ F % 2 ^ k = 0 := by
  constructor
  · intro h
    have hle : F / 2 ^ k * 2 ^ k ≤ F := Nat.div_mul_le_self _ _
    have e := bytesOf_inj _ _ N (by omega) hF h
    rw [← e]; exact Nat.mul_mod_left _ _
  · intro h
    rw [Nat.div_mul_cancel (Nat.dvd_of_mod_eq_zero h)]
/-- One bit more. -/
theorem bit_step (F N a t : Nat) (y : Nat) (h : a + t < 8 * N) (hy : y = byteAt F N ((a + t) / 8)) (ht : t < 64) :
    ∃ d : Nat, bits BinOp.and IntKind.u8 ((y : Int) / 2 ^ (7 - (a + t) % 8)) 1 = (d : Int) ∧ d < 2 ∧ bitsV F (8 * N) a t < 9223372036854775808 ∧ 2 * (bitsV F (8 * N) a t : Int) + (d : Int) = (bitsV F (8 * N) a (t + 1) : Int) := by
  refine ⟨byteAt F N ((a + t) / 8) / 2 ^ (7 - (a + t) % 8) % 2, ?_, Nat.mod_lt _ (by omega), ?_, ?_⟩
  · subst hy
    rw [cast_shr]
    have h1 : byteAt F N ((a + t) / 8) / 2 ^ (7 - (a + t) % 8) < 256 := Nat.lt_of_le_of_lt (Nat.div_le_self _ _) (byteAt_lt _ _ _)
    have := u8_and_nat (byteAt F N ((a + t) / 8) / 2 ^ (7 - (a + t) % 8)) 1 h1 (by omega)
    rw [Nat.and_one_is_mod] at this
    exact this
  · have h1 := bitsV_lt F (8 * N) a t
    have h2 : 2 ^ t ≤ 2 ^ 63 := Nat.pow_le_pow_right (by omega) (by omega)
    omega
  · rw [bit_byte _ _ _ h, bitsV_add _ _ _ _ _ (by omega), Nat.pow_one]
    omega

set_option maxRecDepth 100000 in
set_option maxHeartbeats 2000000 in
theorem refUnpack_any (w : World) (A : Option Addr) (n cap : Nat) (l : List Int) (m x : Int) (hr : Ri w .u8 A n l) (hu : U8 l) (hc : n ≤ cap) (hn : n ≤ 1000000) (r1 r2 : List Int) (er : Int) (hp : unpackR l m x = (r1, r2, er)) :
    Calls Tryz.prog 111 #[.slice A n cap, .int .i64 m, .int .i64 x] w (UnpackOut w r1 r2 er) := by
  have HL := Lib.hid hr.len
  have HR := Lib.hid hr; clear hr
  have HU := Lib.hid hu; clear hu
  rcases (show m < 0 ∨ (0 ≤ m ∧ 4096 < m) ∨ (0 ≤ m ∧ m ≤ 4096 ∧ x < 0) ∨ (0 ≤ m ∧ m ≤ 4096 ∧ 0 ≤ x ∧ 64 < x) ∨ (0 ≤ m ∧ m ≤ 4096 ∧ 0 ≤ x ∧ x ≤ 64) by omega) with h | ⟨h1, h2⟩ | ⟨h1, h2, h3⟩ | ⟨h1, h2, h3, h4⟩ | ⟨h1, h2, h3, h4⟩
  case inr.inr.inr.inr =>
    have hf : fitsB m x = true := decide_eq_true (by omega)
    obtain ⟨k, rfl⟩ := Int.eq_ofNat_of_zero_le h3
    obtain ⟨M, rfl⟩ := Int.eq_ofNat_of_zero_le h1
    have hk : k ≤ 64 := by omega
    have hM : M ≤ 4096 := by omega
    clear h1 h2 h3 h4
    obtain ⟨N, hN⟩ : ∃ N, N = (M * k + 7) / 8 := ⟨_, rfl⟩
    have hMk : M * k ≤ 4096 * 64 := Nat.mul_le_mul (by omega) hk
    have hNle : N ≤ 32768 := by omega
    have hsz : Hid (sizeN M k = (N : Int)) := by
      show sizeN M k = _
      unfold sizeN
      rw [hf, if_pos rfl, hN]
      rw [← Int.natCast_mul]; omega
    unfold unpackR at hp
    rw [if_neg (by rw [hf]; simp), hsz.out, Int.toNat_natCast, HL.out, Int.toNat_natCast, Int.toNat_natCast] at hp
    have HN := Lib.hid hN; clear hN hf hMk
    by_cases hshort : n < N
    · rw [if_pos hshort] at hp
      injection hp with e1 e2; injection e2 with e2 e3
      subst e1 e2 e3
      go_enter Tryz.func111, Tryz.ntmps111
      go_wp2_with fail
      refine (refSize_any _ _ _).mono ?_; rintro e w' ⟨rfl, rfl⟩
      rw [hsz.out]
      go_wp2_with fail
      refine bodyPost_ret (results_tmp3 rfl _ _ _) rfl ?_
      exact UnpackOut.nil (Below.refl _ _)
    · rw [if_neg hshort] at hp
      simp only at hp
      obtain ⟨F, hF⟩ : ∃ F, F = packV (l.take N) 8 := ⟨_, rfl⟩
      have htl : (l.take N).length = N := by rw [List.length_take, HL.out]; omega
      have hFl : Hid (bytesOf F N = l.take N ∧ F < 256 ^ N) := by
        show _ ∧ _
        refine ⟨?_, ?_⟩
        · have h := bytesOf_packV (l.take N) (HU.out.take _)
          rw [← hF, htl] at h; exact h
        · have h := packV_lt (l.take N) 8 (fun y hy => by have := HU.out.take N y hy; omega)
          rw [← hF, htl] at h
          rwa [pow8, Nat.mul_comm 8]
      rw [← hF] at hp
      have HP := Lib.hid hp
      clear hp hF htl
      go_enter Tryz.func111, Tryz.ntmps111
      go_wp2_with fail
      refine (refSize_any _ _ _).mono ?_; rintro e w' ⟨rfl, rfl⟩
      rw [hsz.out]
      go_wp2_with fail
      go_loopw [10, 11, 12] (fun v a i wr => ∃ j p : Nat, j ≤ M ∧ i = .int .i64 j ∧ a = .int .i64 p ∧ Hid (p = j * k) ∧ Hid (wr.ownsRow w.heap.size 109 1 v j ((bitsL F (8 * N) k j).map (Value.int .u64))) ∧ Below w.heap.size w wr) (fun _ _ i _ => M - (intOf i).toNat)
      case atStart =>
        exact ⟨0, 0, by omega, rfl, rfl, by show 0 = 0 * k; omega, own_empty w _ 1, (Below.refl _ _).alloc (Nat.le_refl _) _⟩
      case round =>
        obtain ⟨j, p, hj, rfl, rfl, hpj, ho, hbw⟩ := hrel
        by_cases hlt : j < M
        · have hpk : p + k ≤ 8 * N := by
            have h1 : (j + 1) * k ≤ M * k := Nat.mul_le_mul_right _ hlt
            rw [Nat.add_mul, Nat.one_mul, ← hpj.out] at h1
            have := HN.out
            omega
          go_wp2_with fail
          go_loopw [11, 13, 14] (fun a v q wi => ∃ t : Nat, t ≤ k ∧ a = .int .i64 ((p + t : Nat) : Int) ∧ v = .int .u64 (bitsV F (8 * N) p t) ∧ q = .int .i64 t ∧ wi = wr) (fun _ _ q _ => k - (intOf q).toNat)
          case atStart => exact ⟨0, by omega, rfl, by unfold bitsV; rw [Nat.pow_zero, Nat.mod_one]; rfl, rfl, rfl⟩
          case round =>
            obtain ⟨t, ht, rfl, rfl, rfl, rfl⟩ := hrel
            by_cases hlt2 : t < k
            · obtain ⟨b, o, hA, hbl, hcell⟩ := HR.out.at_ (j := (p + t) / 8) (by omega)
              subst hA
              obtain ⟨y, hy, hyF⟩ : ∃ y : Nat, (y : Int) = l.getD ((p + t) / 8) 0 ∧ y = byteAt F N ((p + t) / 8) := by
                refine ⟨_, ?_, rfl⟩
                have h1 := congrArg (fun q => q[(p + t) / 8]?) hFl.out.1
                rw [bytesOf_get _ _ _ (by omega), List.getElem?_take_of_lt (by omega)] at h1
                simp only [List.getD]
                rw [← h1]; rfl
              obtain ⟨d, hd1, hd2, hd3, hd4⟩ := bit_step F N p t y (by omega) hyF (by omega)
              rw [← hy] at hcell
              have hc2 := (hbw.cell (p := ⟨b, o + (p + t) / 8, none⟩) hbl).trans hcell
              have hy8 : y < 256 := by rw [hyF]; exact byteAt_lt _ _ _
              have HD4 := Lib.hid hd4
              have hd0 : 0 ≤ bits BinOp.and IntKind.u8 ((y : Int) / 2 ^ (7 - (p + t) % 8)) 1 ∧ bits BinOp.and IntKind.u8 ((y : Int) / 2 ^ (7 - (p + t) % 8)) 1 < 2 := by rw [hd1]; omega
              have HD1 := Lib.hid hd1
              clear hcell hyF hd4 hy hd1
              generalize hvv : bitsV F (8 * N) p t = v at *
              clear hvv
              go_wp2_with fail
              go_roundw
              case rel =>
                refine ⟨t + 1, by omega, by go_num, ?_, by go_num, by trivial⟩
                rw [HD1.out, HD4.out]
              case measure => simp [intOf] <;> omega
            · obtain rfl : t = k := by omega
              obtain ⟨v, hv⟩ : ∃ v, v = bitsV F (8 * N) p t := ⟨_, rfl⟩
              rw [← hv]
              have hvl : v < 18446744073709551616 := by
                rw [hv]
                have h1 := bitsV_lt F (8 * N) p t
                have h2 : 2 ^ t ≤ 2 ^ 64 := Nat.pow_le_pow_right (by omega) hk
                omega
              have HV := Lib.hid hv; clear hv
              have hsz := hbw.size
              go_wp2_with (at_builtin; refine wpList_u64 _ rfl _ _ rfl w.heap.size _ j _ rfl (own_below ho.out ((Below.refl _ _).alloc (Nat.le_refl _) _)) _ 1 1 [(v : Int)] rfl (Rd.one _ _ _) (by omega) (by simp; omega) ?_; intro G c w1 hown hgr _)
              have HOWN := Lib.hid hown; clear hown
              go_wp2_with fail
              go_roundw
              case rel =>
                refine ⟨j + 1, p + t, by omega, by go_num, by go_num, Lib.hid ?_, Lib.hid ?_, push_ hbw (Nat.le_refl _) ho.out hgr⟩
                · rw [Nat.add_mul, Nat.one_mul, ← hpj.out]
                · rw [bitsL_snoc, ← hpj.out, ← HV.out]
                  exact HOWN.out
              case measure => simp [intOf] <;> omega
        · obtain rfl : j = M := by omega
          obtain ⟨G, c, rfl⟩ := own_form ho.out
          have hsl := Sl.of_own ho.out
          have HSL := Lib.hid hsl; clear hsl ho
          have HRL := Lib.hid (HR.out.below hbw)
          go_wp2_with fail
          refine (refPack_any _ _ _ _ _ _ HSL.out.1 (bits_u64 _ _ _ _ hk) (by omega) _ _ (pack_again F N k j hk hM HN.out hFl.out.2)).mono ?_; rintro e w1 ⟨G1, n1, c1, rfl, hr1, hb1⟩
          have hr2 := (HRL.out.below hb1).first (m := N) (by omega)
          rw [← hFl.out.1] at hr2
          have cv1 := fun nq => conv_any (w := w1.drewN nq) (c := c1) (hr1.1.drewN nq)
          have cv2 := fun nq => conv_any (w := w1.drewN nq) (c := cap) (hr2.drewN nq)
          have st := strOf_beq _ _ (bytesOf_u8 (F / 2 ^ (8 * N - j * k) * 2 ^ (8 * N - j * k)) N) (bytesOf_u8 F N)
          have hp := HP.out
          have hag := again_same F N (8 * N - j * k) hFl.out.2
          by_cases hz : F % 2 ^ (8 * N - j * k) = 0
          · rw [if_pos hz] at hp
            rw [decide_eq_true (hag.2 hz)] at st
            injection hp with e1 e2; injection e2 with e2 e3
            subst e1 e2 e3
            generalize strOf (bytesOf F N) = S1 at *
            generalize strOf (bytesOf (F / 2 ^ (8 * N - j * k) * 2 ^ (8 * N - j * k)) N) = S2 at *
            have HB1 := Lib.hid hb1
            clear hz hag hr1 hr2 hb1
            rcases Nat.eq_zero_or_pos n with hn0 | hn0
            · subst hn0
              obtain rfl : N = 0 := by omega
              obtain rfl : l = [] := List.eq_nil_of_length_eq_zero HL.out
              go_wp2_with fail
              go_quiet (fail)
              go_wp2_with (at_builtin; refine wpList_u8 _ rfl _ _ rfl w1.heap.size _ 0 [] rfl (own_empty (w1.drewN nq) _ 1) _ 0 _ [] rfl (Ri.nil _ _ _) (by omega) (by simp) ?_; intro G2 c2 w2 hown hgr _)
              all_goals
                have HOWN := Lib.hid hown; clear hown
                have hbf := push0 ((Below.refl (w1.drewN nq).heap.size (w1.drewN nq)).alloc (Nat.le_refl _) _) (Nat.le_refl _) (own_empty (w1.drewN nq) _ 1) hgr
                go_wp2_with fail
                refine bodyPost_ret (results_tmp3 rfl _ _ _) rfl ?_
                refine ⟨_, _, _, G2, _, c2, rfl, (((HSL.out.below HB1.out).drewN nq).below hbf), ?_, on (below_drewN (on hbw HB1.out) nq) hbf⟩
                have h := Sl.of_own HOWN.out
                exact h
            · obtain ⟨b, o, hA, _⟩ := HR.out.all hn0
              subst hA
              have HQ := Lib.hid ((HRL.out.below HB1.out).restIf (i := N) (by omega) (cap := cap) hc)
              go_wp2_with fail
              go_quiet (fail)
              go_wp2_with (at_builtin; refine wpList_u8 _ rfl _ _ rfl w1.heap.size _ 0 [] rfl (own_empty (w1.drewN nq) _ 1) _ (n - N) _ (l.drop N) rfl ((HQ.out.drewN nq).alloc _) (by omega) (by simp) ?_; intro G2 c2 w2 hown hgr _)
              all_goals
                rw [Nat.zero_add, List.nil_append] at hown
                have HOWN := Lib.hid hown; clear hown
                have hbf := push0 ((Below.refl (w1.drewN nq).heap.size (w1.drewN nq)).alloc (Nat.le_refl _) _) (Nat.le_refl _) (own_empty (w1.drewN nq) _ 1) hgr
                go_wp2_with fail
                refine bodyPost_ret (results_tmp3 rfl _ _ _) rfl ?_
                exact ⟨_, _, _, G2, (n - N), c2, by first | rfl | (rw [Nat.zero_add]; rfl), (((HSL.out.below HB1.out).drewN nq).below hbf), Sl.of_own HOWN.out, on (below_drewN (on hbw HB1.out) nq) hbf⟩
          · rw [if_neg hz] at hp
            rw [decide_eq_false (fun h => hz (hag.1 h))] at st
            injection hp with e1 e2; injection e2 with e2 e3
            subst e1 e2 e3
            generalize strOf (bytesOf F N) = S1 at *
            generalize strOf (bytesOf (F / 2 ^ (8 * N - j * k) * 2 ^ (8 * N - j * k)) N) = S2 at *
            clear hz hag hr1 hr2
            go_wp2_with fail
            go_quiet (fail)
            go_wp2_with fail
            refine bodyPost_ret (results_tmp3 rfl _ _ _) rfl ?_
            exact UnpackOut.nil (below_drewN (on hbw hb1) _)
  all_goals
    have HS : Hid (unpackR l m x = ([], [], 1)) := by
      show unpackR l m x = _
      unfold unpackR
      rw [show fitsB m x = false from decide_eq_false (by omega)]; rfl
    have hp := hp.symm.trans HS.out
    injection hp with e1 e2; injection e2 with e2 e3
    subst e1 e2 e3
    go_enter Tryz.func111, Tryz.ntmps111
    go_wp2_with fail
    refine bodyPost_ret (results_tmp3 rfl _ _ _) rfl ?_
    exact UnpackOut.nil (Below.refl _ _)
end Go.Proofs.YtmejoococajikaaGreat

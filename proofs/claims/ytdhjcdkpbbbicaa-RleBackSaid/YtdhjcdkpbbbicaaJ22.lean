/- Joined texts: Take3, FreshU, RefUF, RepPl. Each has its own head line. No condition beyond those that its theorems state. -/
import Derived.Test.YtdhjcdkpbbbicaaJ19
import Derived.Test.YtdhjcdkpbbbicaaJ21
set_option linter.unusedVariables false

/- The closure that takes bits. -/
namespace Go.Proofs.Ytdhjcdkpbbbicaa
open Go.RowKit

set_option maxRecDepth 100000 in
set_option maxHeartbeats 1000000 in
theorem take3_any (w : World) (ba bb N p left F : Nat) (A : Option Addr) (n cap : Nat) (l : List Int) (hat : Blk w ba 3 #[.int .i64 p]) (hbb : Blk w bb 25 #[.slice A n cap]) (hr : Ri w .u8 A n l) (hF : bytesOf F N = l.take N)
    (hp : p < 8 * N) (hN : N ≤ n) (hn : n ≤ 1000000) (hl1 : 1 ≤ left) (hl2 : left ≤ 64) (m : Nat) (hm : m = min left (8 - p % 8)) (hm2 : p + m ≤ 8 * N) :
    Calls Try.prog 120 #[.int .i64 left, .pointer (some ⟨ba, 0, none⟩), .pointer (some ⟨bb, 0, none⟩)] w
      fun e w' => e = .returned (.tuple #[.int .u64 (bitsV F (8 * N) p m), .int .i64 m]) ∧ ∃ nq, w' = (w.setCell ⟨ba, 0, none⟩ (.int .i64 (p + m))).drewN nq := by
  have c1 : w.cell? ⟨ba, 0, none⟩ = some (.int .i64 p) := by rw [hat.cell]; rfl
  have c2 : w.cell? ⟨bb, 0, none⟩ = some (.slice A n cap) := by rw [hbb.cell]; rfl
  have f1 := hat.frozen 0
  obtain ⟨b, o, hA, hbl, hcell⟩ := hr.at_ (j := p / 8) (by omega)
  subst hA
  obtain ⟨y, hy, hyF⟩ : ∃ y : Nat, (y : Int) = l.getD (p / 8) 0 ∧ y = byteAt F N (p / 8) := by
    refine ⟨_, ?_, rfl⟩
    have h1 := congrArg (fun q => q[p / 8]?) hF
    rw [bytesOf_get _ _ _ (by omega), List.getElem?_take_of_lt (by omega)] at h1
    simp only [List.getD]
    rw [← h1]; rfl
  rw [← hy] at hcell
  have hy8 : y < 256 := by rw [hyF]; exact byteAt_lt _ _ _
  have hbits := bits_byte F N p m hm2 (by omega) (by omega)
  rw [← hyF] at hbits
  have hres : Hid ((y : Int) * 2 ^ (p % 8) % 256 / 2 ^ (8 - m) = (bitsV F (8 * N) p m : Nat)) := by
    show _ = _
    rw [cast_shl, cast_shr, hbits]
  have hrg : 0 ≤ (y : Int) * 2 ^ (p % 8) % 256 / 2 ^ (8 - m) ∧ (y : Int) * 2 ^ (p % 8) % 256 / 2 ^ (8 - m) < 256 := by
    rw [hres.out]
    have h1 := bitsV_lt F (8 * N) p m
    have h2 : 2 ^ m ≤ 2 ^ 8 := Nat.pow_le_pow_right (by omega) (by omega)
    omega
  clear hyF hbits hF hy hr hbb hat
  rcases Nat.lt_or_ge (8 - p % 8) left with h | h
  · have hmi : (8 : Int) - (p : Int) % 8 = (m : Int) := by omega
    clear hm
    go_enter Try.func120, Try.ntmps120
    go_wp2_with fail
    go_quiet (fail)
    go_wp2_with fail
    go_ret2
    exact ⟨congrArg (fun v => Ending.returned (.tuple #[.int .u64 v, .int .i64 m])) hres.out, nq, rfl⟩
  · obtain rfl : m = left := by omega
    clear hm
    go_enter Try.func120, Try.ntmps120
    go_wp2_with fail
    go_quiet (fail)
    go_wp2_with fail
    go_ret2
    exact ⟨congrArg (fun v => Ending.returned (.tuple #[.int .u64 v, .int .i64 m])) hres.out, nq, rfl⟩
end Go.Proofs.Ytdhjcdkpbbbicaa

/- Words for rows that a call makes anew. -/
namespace Go.Proofs.Ytdhjcdkpbbbicaa
open Go.RowKit

/-- Bytes in a new block are handed back. -/
def BytesFresh (w : World) (l : List Int) (e : Ending) (w' : World) : Prop :=
  ∃ G n c, e = .returned (.slice G n c) ∧ Sl w' .u8 G n c l ∧ Below w.heap.size w w' ∧ ∀ g o, G = some ⟨g, o, none⟩ → w.heap.size ≤ g
theorem own_mono {w : World} {B B' s n : Nat} {e : TypeId} {v : Value} {xs : List Value} (h : w.ownsRow B e s v n xs) (hB : B' ≤ B) : w.ownsRow B' e s v n xs :=
  ⟨h.1, h.2.imp id fun ⟨g, cap, cur, e1, e2, r⟩ => ⟨g, cap, cur, e1, Nat.le_trans hB e2, r⟩⟩
/-- Two rows of the call's own are handed back: numbers, bytes, and the error. -/
def UnpackNew (w : World) (l1 l2 : List Int) (er : Int) (e : Ending) (w' : World) : Prop :=
  ∃ G n c G2 n2 c2, e = .returned (.tuple #[.slice G n c, .slice G2 n2 c2, .int .i64 er]) ∧ Sl w' .u64 G n c l1 ∧ Sl w' .u8 G2 n2 c2 l2 ∧ Below w.heap.size w w' ∧
    w'.ownsRow w.heap.size 47 1 (.slice G n c) n (l1.map (Value.int .u64)) ∧ ∀ g o, G2 = some ⟨g, o, none⟩ → w.heap.size ≤ g
theorem UnpackNew.nil {w w' : World} {er : Int} (h : Below w.heap.size w w') : UnpackNew w [] [] er (.returned (.tuple #[.slice none 0 0, .slice none 0 0, .int .i64 er])) w' :=
  ⟨none, 0, 0, none, 0, 0, rfl, Sl.nil _ _, Sl.nil _ _, h, World.ownsRow_nil _ _ _ _, fun _ _ h => by cases h⟩
end Go.Proofs.Ytdhjcdkpbbbicaa

/- The reference of bits.Unpack: the rows that it hands back are its own (printed by wip/unpf.py out of XRefU). -/
namespace Go.Proofs.Ytdhjcdkpbbbicaa
open Go.RowKit

set_option maxRecDepth 100000 in
set_option maxHeartbeats 2000000 in
theorem refUnpackF_any (w : World) (A : Option Addr) (n cap : Nat) (l : List Int) (m x : Int) (hr : Ri w .u8 A n l) (hu : U8 l) (hc : n ≤ cap) (hn : n ≤ 1000000) (r1 r2 : List Int) (er : Int) (hp : unpackR l m x = (r1, r2, er)) :
    Calls Try.prog 113 #[.slice A n cap, .int .i64 m, .int .i64 x] w (UnpackNew w r1 r2 er) := by
  have HL := Lib.hid hr.len
  have HR := Lib.hid hr; clear hr
  have HU := Lib.hid hu; clear hu
  rcases (show m < 0 ∨ (0 ≤ m ∧ 4096 < m) ∨ (0 ≤ m ∧ m ≤ 4096 ∧ x < 0) ∨ (0 ≤ m ∧ m ≤ 4096 ∧ 0 ≤ x ∧ 64 < x) ∨ (0 ≤ m ∧ m ≤ 4096 ∧ 0 ≤ x ∧ x ≤ 64) by omega) with h | ⟨h1, h2⟩ | ⟨h1, h2, h3⟩ | ⟨h1, h2, h3, h4⟩ | ⟨h1, h2, h3, h4⟩
  case inr.inr.inr.inr =>
    have hf : fitsB m x = true := decide_eq_true (by omega)
    obtain ⟨k, rfl⟩ := Int.eq_ofNat_of_zero_le h3
    obtain ⟨M, rfl⟩ := Int.eq_ofNat_of_zero_le h1
    have hk : k ≤ 64 := by omega
    have hM : M ≤ 4096 := by omega
    clear h1 h2 h3 h4
    obtain ⟨N, hN⟩ : ∃ N, N = (M * k + 7) / 8 := ⟨_, rfl⟩
    have hMk : M * k ≤ 4096 * 64 := Nat.mul_le_mul (by omega) hk
    have hNle : N ≤ 32768 := by omega
    have hsz : Hid (sizeN M k = (N : Int)) := by
      show sizeN M k = _
      unfold sizeN
      rw [hf, if_pos rfl, hN]
      rw [← Int.natCast_mul]; omega
    unfold unpackR at hp
    rw [if_neg (by rw [hf]; simp), hsz.out, Int.toNat_natCast, HL.out, Int.toNat_natCast, Int.toNat_natCast] at hp
    have HN := Lib.hid hN; clear hN hf hMk
    by_cases hshort : n < N
    · rw [if_pos hshort] at hp
      injection hp with e1 e2; injection e2 with e2 e3
      subst e1 e2 e3
      go_enter Try.func113, Try.ntmps113
      go_wp2_with fail
      refine (refSize_any _ _ _).mono ?_; rintro e w' ⟨rfl, rfl⟩
      rw [hsz.out]
      go_wp2_with fail
      refine bodyPost_ret (results_tmp3 rfl _ _ _) rfl ?_
      exact UnpackNew.nil (Below.refl _ _)
    · rw [if_neg hshort] at hp
      simp only at hp
      obtain ⟨F, hF⟩ : ∃ F, F = packV (l.take N) 8 := ⟨_, rfl⟩
      have htl : (l.take N).length = N := by rw [List.length_take, HL.out]; omega
      have hFl : Hid (bytesOf F N = l.take N ∧ F < 256 ^ N) := by
        show _ ∧ _
        refine ⟨?_, ?_⟩
        · have h := bytesOf_packV (l.take N) (HU.out.take _)
          rw [← hF, htl] at h; exact h
        · have h := packV_lt (l.take N) 8 (fun y hy => by have := HU.out.take N y hy; omega)
          rw [← hF, htl] at h
          rwa [pow8, Nat.mul_comm 8]
      rw [← hF] at hp
      have HP := Lib.hid hp
      clear hp hF htl
      go_enter Try.func113, Try.ntmps113
      go_wp2_with fail
      refine (refSize_any _ _ _).mono ?_; rintro e w' ⟨rfl, rfl⟩
      rw [hsz.out]
      go_wp2_with fail
      go_loopw [10, 11, 12] (fun v a i wr => ∃ j p : Nat, j ≤ M ∧ i = .int .i64 j ∧ a = .int .i64 p ∧ Hid (p = j * k) ∧ Hid (wr.ownsRow w.heap.size 47 1 v j ((bitsL F (8 * N) k j).map (Value.int .u64))) ∧ Below w.heap.size w wr) (fun _ _ i _ => M - (intOf i).toNat)
      case atStart =>
        exact ⟨0, 0, by omega, rfl, rfl, by show 0 = 0 * k; omega, own_empty w _ 1, (Below.refl _ _).alloc (Nat.le_refl _) _⟩
      case round =>
        obtain ⟨j, p, hj, rfl, rfl, hpj, ho, hbw⟩ := hrel
        by_cases hlt : j < M
        · have hpk : p + k ≤ 8 * N := by
            have h1 : (j + 1) * k ≤ M * k := Nat.mul_le_mul_right _ hlt
            rw [Nat.add_mul, Nat.one_mul, ← hpj.out] at h1
            have := HN.out
            omega
          go_wp2_with fail
          go_loopw [11, 13, 14] (fun a v q wi => ∃ t : Nat, t ≤ k ∧ a = .int .i64 ((p + t : Nat) : Int) ∧ v = .int .u64 (bitsV F (8 * N) p t) ∧ q = .int .i64 t ∧ wi = wr) (fun _ _ q _ => k - (intOf q).toNat)
          case atStart => exact ⟨0, by omega, rfl, by unfold bitsV; rw [Nat.pow_zero, Nat.mod_one]; rfl, rfl, rfl⟩
          case round =>
            obtain ⟨t, ht, rfl, rfl, rfl, rfl⟩ := hrel
            by_cases hlt2 : t < k
            · obtain ⟨b, o, hA, hbl, hcell⟩ := HR.out.at_ (j := (p + t) / 8) (by omega)
              subst hA
              obtain ⟨y, hy, hyF⟩ : ∃ y : Nat, (y : Int) = l.getD ((p + t) / 8) 0 ∧ y = byteAt F N ((p + t) / 8) := by
                refine ⟨_, ?_, rfl⟩
                have h1 := congrArg (fun q => q[(p + t) / 8]?) hFl.out.1
                rw [bytesOf_get _ _ _ (by omega), List.getElem?_take_of_lt (by omega)] at h1
                simp only [List.getD]
                rw [← h1]; rfl
              obtain ⟨d, hd1, hd2, hd3, hd4⟩ := bit_step F N p t y (by omega) hyF (by omega)
              rw [← hy] at hcell
              have hc2 := (hbw.cell (p := ⟨b, o + (p + t) / 8, none⟩) hbl).trans hcell
              have hy8 : y < 256 := by rw [hyF]; exact byteAt_lt _ _ _
              have HD4 := Lib.hid hd4
              have hd0 : 0 ≤ bits BinOp.and IntKind.u8 ((y : Int) / 2 ^ (7 - (p + t) % 8)) 1 ∧ bits BinOp.and IntKind.u8 ((y : Int) / 2 ^ (7 - (p + t) % 8)) 1 < 2 := by rw [hd1]; omega
              have HD1 := Lib.hid hd1
              clear hcell hyF hd4 hy hd1
              generalize hvv : bitsV F (8 * N) p t = v at *
              clear hvv
              go_wp2_with fail
              go_roundw
              case rel =>
                refine ⟨t + 1, by omega, by go_num, ?_, by go_num, by trivial⟩
                rw [HD1.out, HD4.out]
              case measure => simp [intOf] <;> omega
            · obtain rfl : t = k := by omega
              obtain ⟨v, hv⟩ : ∃ v, v = bitsV F (8 * N) p t := ⟨_, rfl⟩
              rw [← hv]
              have hvl : v < 18446744073709551616 := by
                rw [hv]
                have h1 := bitsV_lt F (8 * N) p t
                have h2 : 2 ^ t ≤ 2 ^ 64 := Nat.pow_le_pow_right (by omega) hk
                omega
              have HV := Lib.hid hv; clear hv
              have hsz := hbw.size
              go_wp2_with (at_builtin; refine wpList_u64 _ rfl _ _ rfl w.heap.size _ j _ rfl (own_below ho.out ((Below.refl _ _).alloc (Nat.le_refl _) _)) _ 1 1 [(v : Int)] rfl (Rd.one _ _ _) (by omega) (by simp; omega) ?_; intro G c w1 hown hgr _)
              have HOWN := Lib.hid hown; clear hown
              go_wp2_with fail
              go_roundw
              case rel =>
                refine ⟨j + 1, p + t, by omega, by go_num, by go_num, Lib.hid ?_, Lib.hid ?_, push_ hbw (Nat.le_refl _) ho.out hgr⟩
                · rw [Nat.add_mul, Nat.one_mul, ← hpj.out]
                · rw [bitsL_snoc, ← hpj.out, ← HV.out]
                  exact HOWN.out
              case measure => simp [intOf] <;> omega
        · obtain rfl : j = M := by omega
          obtain ⟨G, c, rfl⟩ := own_form ho.out
          have hsl := Sl.of_own ho.out
          have HSL := Lib.hid hsl; clear hsl
          have HRL := Lib.hid (HR.out.below hbw)
          go_wp2_with fail
          refine (refPack_any _ _ _ _ _ _ HSL.out.1 (bits_u64 _ _ _ _ hk) (by omega) _ _ (pack_again F N k j hk hM HN.out hFl.out.2)).mono ?_; rintro e w1 ⟨G1, n1, c1, rfl, hr1, hb1⟩
          have hr2 := (HRL.out.below hb1).first (m := N) (by omega)
          rw [← hFl.out.1] at hr2
          have cv1 := fun nq => conv_any (w := w1.drewN nq) (c := c1) (hr1.1.drewN nq)
          have cv2 := fun nq => conv_any (w := w1.drewN nq) (c := cap) (hr2.drewN nq)
          have st := strOf_beq _ _ (bytesOf_u8 (F / 2 ^ (8 * N - j * k) * 2 ^ (8 * N - j * k)) N) (bytesOf_u8 F N)
          have hp := HP.out
          have hag := again_same F N (8 * N - j * k) hFl.out.2
          by_cases hz : F % 2 ^ (8 * N - j * k) = 0
          · rw [if_pos hz] at hp
            rw [decide_eq_true (hag.2 hz)] at st
            injection hp with e1 e2; injection e2 with e2 e3
            subst e1 e2 e3
            generalize strOf (bytesOf F N) = S1 at *
            generalize strOf (bytesOf (F / 2 ^ (8 * N - j * k) * 2 ^ (8 * N - j * k)) N) = S2 at *
            have HB1 := Lib.hid hb1
            clear hz hag hr1 hr2 hb1
            rcases Nat.eq_zero_or_pos n with hn0 | hn0
            · subst hn0
              obtain rfl : N = 0 := by omega
              obtain rfl : l = [] := List.eq_nil_of_length_eq_zero HL.out
              go_wp2_with fail
              go_quiet (fail)
              go_wp2_with (at_builtin; refine wpList_u8 _ rfl _ _ rfl w1.heap.size _ 0 [] rfl (own_empty (w1.drewN nq) _ 1) _ 0 _ [] rfl (Ri.nil _ _ _) (by omega) (by simp) ?_; intro G2 c2 w2 hown hgr _)
              all_goals
                have HOWN := Lib.hid hown; clear hown
                have hbf := push0 ((Below.refl (w1.drewN nq).heap.size (w1.drewN nq)).alloc (Nat.le_refl _) _) (Nat.le_refl _) (own_empty (w1.drewN nq) _ 1) hgr
                go_wp2_with fail
                refine bodyPost_ret (results_tmp3 rfl _ _ _) rfl ?_
                refine ⟨_, _, _, G2, _, c2, rfl, (((HSL.out.below HB1.out).drewN nq).below hbf), ?_, on (below_drewN (on hbw HB1.out) nq) hbf, own_below ho.out (on (below_drewN HB1.out nq) hbf), fun g o h => by subst h; exact Nat.le_trans (on hbw HB1.out).size (HOWN.out.lt g rfl).1⟩
                have h := Sl.of_own HOWN.out
                exact h
            · obtain ⟨b, o, hA, _⟩ := HR.out.all hn0
              subst hA
              have HQ := Lib.hid ((HRL.out.below HB1.out).restIf (i := N) (by omega) (cap := cap) hc)
              go_wp2_with fail
              go_quiet (fail)
              go_wp2_with (at_builtin; refine wpList_u8 _ rfl _ _ rfl w1.heap.size _ 0 [] rfl (own_empty (w1.drewN nq) _ 1) _ (n - N) _ (l.drop N) rfl ((HQ.out.drewN nq).alloc _) (by omega) (by simp) ?_; intro G2 c2 w2 hown hgr _)
              all_goals
                rw [Nat.zero_add, List.nil_append] at hown
                have HOWN := Lib.hid hown; clear hown
                have hbf := push0 ((Below.refl (w1.drewN nq).heap.size (w1.drewN nq)).alloc (Nat.le_refl _) _) (Nat.le_refl _) (own_empty (w1.drewN nq) _ 1) hgr
                go_wp2_with fail
                refine bodyPost_ret (results_tmp3 rfl _ _ _) rfl ?_
                exact ⟨_, _, _, G2, (n - N), c2, by first | rfl | (rw [Nat.zero_add]; rfl), (((HSL.out.below HB1.out).drewN nq).below hbf), Sl.of_own HOWN.out, on (below_drewN (on hbw HB1.out) nq) hbf, own_below ho.out (on (below_drewN HB1.out nq) hbf), fun g o h => by subst h; exact Nat.le_trans (on hbw HB1.out).size (HOWN.out.lt g rfl).1⟩
          · rw [if_neg hz] at hp
            rw [decide_eq_false (fun h => hz (hag.1 h))] at st
            injection hp with e1 e2; injection e2 with e2 e3
            subst e1 e2 e3
            generalize strOf (bytesOf F N) = S1 at *
            generalize strOf (bytesOf (F / 2 ^ (8 * N - j * k) * 2 ^ (8 * N - j * k)) N) = S2 at *
            clear hz hag hr1 hr2
            go_wp2_with fail
            go_quiet (fail)
            go_wp2_with fail
            refine bodyPost_ret (results_tmp3 rfl _ _ _) rfl ?_
            exact UnpackNew.nil (below_drewN (on hbw hb1) _)
  all_goals
    have HS : Hid (unpackR l m x = ([], [], 1)) := by
      show unpackR l m x = _
      unfold unpackR
      rw [show fitsB m x = false from decide_eq_false (by omega)]; rfl
    have hp := hp.symm.trans HS.out
    injection hp with e1 e2; injection e2 with e2 e3
    subst e1 e2 e3
    go_enter Try.func113, Try.ntmps113
    go_wp2_with fail
    refine bodyPost_ret (results_tmp3 rfl _ _ _) rfl ?_
    exact UnpackNew.nil (Below.refl _ _)
end Go.Proofs.Ytdhjcdkpbbbicaa

/- Plain laws on a number a few times. -/
namespace Go.Proofs.Ytdhjcdkpbbbicaa
open Go.RowKit

theorem foldU_hiB (u k : Nat) : foldU (hiB u k) = u % 256 ^ k := by
  induction k with
  | zero => simp [hiB, foldU, Nat.mod_one]
  | succ k ih =>
    unfold hiB
    rw [foldU_cons _ _ (hiB_u8 u k), ih, hiB_len, Nat.pow_succ, Nat.mod_mul]
    have e : (2 : Int) ^ (8 * k) = ((256 ^ k : Nat) : Int) := by
      rw [show (256 : Nat) = 2 ^ 8 from rfl, ← Nat.pow_mul, Int.natCast_pow]; rfl
    rw [e, ← Int.natCast_ediv, show ((u / 256 ^ k : Nat) : Int) % 256 = ((u / 256 ^ k % 256 : Nat) : Int) from rfl, Int.toNat_natCast]
    omega
theorem longN_pow (u : Nat) : u < 256 ^ longN u := by
  have h := blen_lt u
  have e : (256 : Nat) ^ longN u = 2 ^ (8 * longN u) := by rw [show (256 : Nat) = 2 ^ 8 from rfl, ← Nat.pow_mul]
  rw [e]
  exact Nat.lt_of_lt_of_le h (Nat.pow_le_pow_right (by omega) (by unfold longN; omega))
theorem takeR_put (u : Nat) (t : Int) (s : Bool) (behind : List Int) (ht1 : 3 ≤ t) (ht2 : t ≤ 10) (hu : u < 18446744073709551616) (hs : s = false → u < 9223372036854775808) :
    takeR (((8 * ((longN u : Int) - 1) + t - 3) :: hiB u (longN u)) ++ behind) s = (if s then zag u else u, t, behind, 0) := by
  have hl := longN_range u hu
  unfold takeR
  simp only [List.cons_append]
  have h1 : ((8 * ((longN u : Int) - 1) + t - 3) / 8 + 1).toNat = longN u := by omega
  have h2 : (8 * ((longN u : Int) - 1) + t - 3) % 8 + 3 = t := by omega
  have h3 : (hiB u (longN u) ++ behind).take (longN u) = hiB u (longN u) := by
    rw [List.take_append_of_le_length (by rw [hiB_len]; exact Nat.le_refl _), List.take_of_length_le (by rw [hiB_len]; exact Nat.le_refl _)]
  have h4 : (hiB u (longN u) ++ behind).drop (longN u) = behind := by
    rw [List.drop_append_of_le_length (by rw [hiB_len]; exact Nat.le_refl _), List.drop_of_length_le (by rw [hiB_len]; exact Nat.le_refl _), List.nil_append]
  rw [if_neg (by omega), h1, h3, h4, foldU_hiB, Nat.mod_eq_of_lt (longN_pow u), h2, if_neg (by rw [List.length_append, hiB_len]; omega), if_neg]
  rintro (h | ⟨h, h'⟩)
  · exact h rfl
  · have := hs h; omega
theorem takeR_cut (u : Nat) (t : Int) (s : Bool) (i : Nat) (ht1 : 3 ≤ t) (ht2 : t ≤ 10) (hu : u < 18446744073709551616) (hi : i < longN u + 1) :
    takeR (((8 * ((longN u : Int) - 1) + t - 3) :: hiB u (longN u)).take i) s = (0, 0, [], 2) := by
  have hl := longN_range u hu
  cases i with
  | zero => rfl
  | succ j =>
    rw [List.take_succ_cons]
    unfold takeR
    have h1 : ((8 * ((longN u : Int) - 1) + t - 3) / 8 + 1).toNat = longN u := by omega
    simp only
    rw [if_neg (by omega), h1, if_pos (by rw [List.length_take, hiB_len]; omega)]
theorem and7 (a : Int) : 0 ≤ bits BinOp.and IntKind.i64 a 7 ∧ bits BinOp.and IntKind.i64 a 7 ≤ 7 := by
  have h : (BitVec.ofInt 64 a &&& BitVec.ofInt 64 7).toNat ≤ 7 := by
    rw [BitVec.toNat_and]
    exact Nat.and_le_right
  show 0 ≤ IntKind.i64.wrap ((BitVec.ofInt 64 a &&& BitVec.ofInt 64 7).toNat : Int) ∧ IntKind.i64.wrap ((BitVec.ofInt 64 a &&& BitVec.ofInt 64 7).toNat : Int) ≤ 7
  rw [IntWalk.i64_in _ (by omega)]
  omega

theorem put_take (x t : Int) (s : Bool) (ht1 : 3 ≤ t) (ht2 : t ≤ 10) (hx : -9223372036854775808 ≤ x ∧ x < 9223372036854775808) (hs : s = false → 0 ≤ x) :
    ∃ (p : List Int), putR x t s = (p, 0) ∧ U8 p ∧ 2 ≤ p.length ∧ p.length ≤ 9 ∧ (∀ behind, takeR (p ++ behind) s = (x, t, behind, 0)) ∧ ∀ i, i < p.length → takeR (p.take i) s = (0, 0, [], 2) := by
  have hz := zig_range x hx.1 hx.2
  have hp : 0 ≤ plainU x s ∧ plainU x s < 18446744073709551616 ∧ (s = false → plainU x s < 9223372036854775808) := by
    unfold plainU
    cases s
    · have := hs rfl; simp; omega
    · simp; omega
  obtain ⟨u, hu⟩ : ∃ u : Nat, (u : Int) = plainU x s := ⟨(plainU x s).toNat, by omega⟩
  have hl := longN_range u (by omega)
  have e : putR x t s = ((8 * ((longN u : Int) - 1) + t - 3) :: hiB u (longN u), 0) := by
    unfold putR
    rw [if_neg (by rintro (h | h | ⟨h, h'⟩); omega; omega; have := hs h; omega), ← hu, Int.toNat_natCast]
  refine ⟨_, e, ?_, by rw [List.length_cons, hiB_len]; omega, by rw [List.length_cons, hiB_len]; omega, ?_, ?_⟩
  · have := putR_u8 x t s hx.1 hx.2
    rwa [e] at this
  · intro behind
    rw [takeR_put u t s behind ht1 ht2 (by omega) (fun h => by have := hp.2.2 h; omega)]
    have : (if s = true then zag (u : Int) else (u : Int)) = x := by
      rw [hu]
      unfold plainU
      cases s
      · simp
      · simp [zag_zig]
    rw [this]
  · intro i hi
    rw [List.length_cons, hiB_len] at hi
    exact takeR_cut u t s i ht1 ht2 (by omega) hi
end Go.Proofs.Ytdhjcdkpbbbicaa

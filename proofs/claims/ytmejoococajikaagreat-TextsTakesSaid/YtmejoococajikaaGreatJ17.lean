/- Joined texts: Unp, UnpF. Each has its own head line. No condition beyond those that its theorems state. -/
import Derived.Test.YtmejoococajikaaGreatJ14
set_option linter.unusedVariables false

/- bits.Unpack. -/
namespace Go.Proofs.YtmejoococajikaaGreat
open Go.RowKit

/-- The world while numbers are unpacked: the two boxes, the numbers so far. -/
def UnpW (w0 wr : World) (A : Option Addr) (n cap p : Nat) : Prop :=
  Blk wr w0.heap.size 38 #[.slice A n cap] ∧ Blk wr (w0.heap.size + 1) 3 #[.int .i64 p] ∧ Below w0.heap.size w0 wr
theorem UnpW.size {w0 wr : World} {A : Option Addr} {n cap p : Nat} (h : UnpW w0 wr A n cap p) : w0.heap.size + 2 ≤ wr.heap.size := by
  have := h.2.1.lt; omega
theorem UnpW.set_ {w0 wr : World} {A : Option Addr} {n cap p q nq : Nat} (h : UnpW w0 wr A n cap p) : UnpW w0 ((wr.setCell ⟨w0.heap.size + 1, 0, none⟩ (.int .i64 q)).drewN nq) A n cap q :=
  ⟨(h.1.far (by simp) _).drewN _, (h.2.1.set_ 0 (.int .i64 q)).drewN _, below_drewN (h.2.2.setCell (Nat.le_succ _) _) _⟩
theorem UnpW.own {w0 wr : World} {A : Option Addr} {n cap p q nq k : Nat} {v : Value} {xs : List Value} {e : TypeId} (_h : UnpW w0 wr A n cap p) (ho : wr.ownsRow (w0.heap.size + 2) e 1 v k xs) :
    ((wr.setCell ⟨w0.heap.size + 1, 0, none⟩ (.int .i64 q)).drewN nq).ownsRow (w0.heap.size + 2) e 1 v k xs := by
  have h := ownsRow_setCell_below ho (a := ⟨w0.heap.size + 1, 0, none⟩) (by simp) (.int .i64 q)
  exact h
theorem UnpW.below {w0 wr w1 : World} {A : Option Addr} {n cap p : Nat} (h : UnpW w0 wr A n cap p) (hb : Below (w0.heap.size + 2) wr w1) : UnpW w0 w1 A n cap p :=
  ⟨h.1.below hb (by omega), h.2.1.below hb (by omega), h.2.2.trans (hb.mono (by omega))⟩

/-- The place that the box holds. -/
def placeOf (w : World) (b : Nat) : Nat := match w.cell? ⟨b, 0, none⟩ with | some (.int _ v) => v.toNat | _ => 0
theorem UnpW.place {w0 wr : World} {A : Option Addr} {n cap p : Nat} (h : UnpW w0 wr A n cap p) : placeOf wr (w0.heap.size + 1) = p := by
  unfold placeOf
  rw [h.2.1.cell]; simp
/-- Some bits more. -/
theorem or_step (F T p t m : Nat) (h : p + t + m ≤ T) (ht : t + m ≤ 64) :
    bitsV F T (p + t) m < 18446744073709551616 ∧ bits BinOp.or IntKind.u64 (IntKind.u64.wrap ((bitsV F T p t : Int) * 2 ^ m)) (bitsV F T (p + t) m : Int) = (bitsV F T p (t + m) : Int) := by
  have h1 := bitsV_lt F T (p + t) m
  have h2 := bitsV_lt F T p (t + m)
  have h3 : 2 ^ (t + m) ≤ 2 ^ 64 := Nat.pow_le_pow_right (by omega) ht
  have h4 : 2 ^ m ≤ 2 ^ (t + m) := Nat.pow_le_pow_right (by omega) (by omega)
  have h5 := bitsV_add F T p t m h
  have e1 : IntKind.u64.wrap ((bitsV F T p t : Int) * 2 ^ m) = ((bitsV F T p t * 2 ^ m : Nat) : Int) := by
    have e2 : (bitsV F T p t : Int) * 2 ^ m = ((bitsV F T p t * 2 ^ m : Nat) : Int) := by rw [Int.natCast_mul, Int.natCast_pow]; rfl
    rw [e2, IntWalk.u64_in _ (by omega)]
  refine ⟨by omega, ?_⟩
  rw [e1, u64_or_nat _ _ (by omega) (by omega), or_add _ _ m (Nat.mul_mod_left _ _) h1, ← h5]
set_option maxRecDepth 100000 in
set_option maxHeartbeats 2000000 in
theorem Unpack_any (w : World) (A : Option Addr) (n cap : Nat) (l : List Int) (m x : Int) (hr : Ri w .u8 A n l) (hu : U8 l) (hc : n ≤ cap) (hn : n ≤ 1000000) (r1 r2 : List Int) (er : Int) (hp : unpackR l m x = (r1, r2, er)) :
    Calls Tryz.prog 162 #[.slice A n cap, .int .i64 m, .int .i64 x] w (UnpackOut w r1 r2 er) := by
  have HL := Lib.hid hr.len
  have HR := Lib.hid hr; clear hr
  have HU := Lib.hid hu; clear hu
  cases hf : fitsB m x
  · unfold unpackR at hp
    rw [if_pos hf] at hp
    injection hp with e1 e2; injection e2 with e2 e3
    subst e1 e2 e3
    have HF := Lib.hid hf; clear hf
    go_enter Tryz.func162, Tryz.ntmps162
    go_wp2_with fail
    refine (fits_any _ _ _).mono ?_; rintro e w' ⟨rfl, rfl⟩
    rw [HF.out]
    go_wp2_with fail
    refine bodyPost_ret (results_tmp3 rfl _ _ _) rfl ?_
    exact UnpackOut.nil ((Below.refl _ _).alloc (Nat.le_refl _) _)
  · have hfb := of_decide_eq_true hf
    obtain ⟨h1, h2, h3, h4⟩ := hfb
    obtain ⟨k, rfl⟩ := Int.eq_ofNat_of_zero_le h3
    obtain ⟨M, rfl⟩ := Int.eq_ofNat_of_zero_le h1
    have hk : k ≤ 64 := by omega
    have hM : M ≤ 4096 := by omega
    clear h1 h2 h3 h4
    obtain ⟨N, hN⟩ : ∃ N, N = (M * k + 7) / 8 := ⟨_, rfl⟩
    have hMk : M * k ≤ 4096 * 64 := Nat.mul_le_mul (by omega) hk
    have hNle : N ≤ 32768 := by omega
    have hsz : Hid (sizeN M k = (N : Int)) := by
      show sizeN M k = _
      unfold sizeN
      rw [hf, if_pos rfl, hN]
      rw [← Int.natCast_mul]; omega
    unfold unpackR at hp
    rw [if_neg (by rw [hf]; simp), hsz.out, Int.toNat_natCast, HL.out, Int.toNat_natCast, Int.toNat_natCast] at hp
    have HN := Lib.hid hN
    have HF := Lib.hid hf; clear hN hf hMk
    by_cases hshort : n < N
    · rw [if_pos hshort] at hp
      injection hp with e1 e2; injection e2 with e2 e3
      subst e1 e2 e3
      go_enter Tryz.func162, Tryz.ntmps162
      go_wp2_with fail
      refine (fits_any _ _ _).mono ?_; rintro e w' ⟨rfl, rfl⟩
      rw [HF.out]
      go_wp2_with fail
      refine (Size_any _ _ _).mono ?_; rintro e w' ⟨rfl, rfl⟩
      rw [hsz.out]
      go_wp2_with fail
      refine bodyPost_ret (results_tmp3 rfl _ _ _) rfl ?_
      exact UnpackOut.nil ((Below.refl _ _).alloc (Nat.le_refl _) _)
    · rw [if_neg hshort] at hp
      simp only at hp
      obtain ⟨F, hF⟩ : ∃ F, F = packV (l.take N) 8 := ⟨_, rfl⟩
      have htl : (l.take N).length = N := by rw [List.length_take, HL.out]; omega
      have hFl : Hid (bytesOf F N = l.take N ∧ F < 256 ^ N) := by
        show _ ∧ _
        refine ⟨?_, ?_⟩
        · have h := bytesOf_packV (l.take N) (HU.out.take _)
          rw [← hF, htl] at h; exact h
        · have h := packV_lt (l.take N) 8 (fun y hy => by have := HU.out.take N y hy; omega)
          rw [← hF, htl] at h
          rwa [pow8, Nat.mul_comm 8]
      rw [← hF] at hp
      have HP := Lib.hid hp
      clear hp hF htl
      go_enter Tryz.func162, Tryz.ntmps162
      go_wp2_with fail
      refine (fits_any _ _ _).mono ?_; rintro e w' ⟨rfl, rfl⟩
      rw [HF.out]
      go_wp2_with fail
      refine (Size_any _ _ _).mono ?_; rintro e w' ⟨rfl, rfl⟩
      rw [hsz.out]
      go_wp2_with fail
      go_loopw [10, 32] (fun v i wr => ∃ j p : Nat, j ≤ M ∧ i = .int .i64 j ∧ Hid (p = j * k) ∧ Hid (UnpW w wr A n cap p) ∧ Hid (wr.ownsRow (w.heap.size + 2) 109 1 v j ((bitsL F (8 * N) k j).map (Value.int .u64)))) (fun _ i _ => M - (intOf i).toNat)
      case atStart =>
        refine ⟨0, 0, by omega, rfl, by show 0 = 0 * k; omega, ?_, World.ownsRow_nil _ _ _ _⟩
        refine ⟨(Blk.new w _ _).alloc _, ?_, ((Below.refl _ _).alloc (Nat.le_refl _) _).alloc (by simp) _⟩
        exact Blk.new_ (by simp)
      case round =>
        obtain ⟨j, p, hj, rfl, hpj, huw, ho⟩ := hrel
        by_cases hlt : j < M
        · have hpk : p + k ≤ 8 * N := by
            have h1 : (j + 1) * k ≤ M * k := Nat.mul_le_mul_right _ hlt
            rw [Nat.add_mul, Nat.one_mul, ← hpj.out] at h1
            have := HN.out
            omega
          go_wp2_with fail
          go_loopw [13, 14] (fun v q wi => ∃ t r : Nat, t + r = k ∧ v = .int .u64 (bitsV F (8 * N) p t) ∧ q = .int .i64 r ∧ Hid (UnpW w wi A n cap (p + t)) ∧ Hid (wi.ownsRow (w.heap.size + 2) 109 1 u10 j ((bitsL F (8 * N) k j).map (Value.int .u64)))) (fun _ q _ => (intOf q).toNat)
          case atStart => exact ⟨0, k, by omega, by unfold bitsV; rw [Nat.pow_zero, Nat.mod_one]; rfl, rfl, huw, ho⟩
          case round =>
            obtain ⟨t, r, htr, rfl, rfl, hui, hoi⟩ := hrel
            by_cases hr0 : 0 < r
            · obtain ⟨m, hm⟩ : ∃ m, m = min r (8 - (p + t) % 8) := ⟨_, rfl⟩
              have htk := take3_any wr (w.heap.size + 1) w.heap.size N (p + t) r F A n cap l hui.out.2.1 hui.out.1 (HR.out.below hui.out.2.2) hFl.out.1 (by omega) (by omega) hn hr0 (by omega) m hm (by omega)
              have hmr : m ≤ r := by omega
              have hm1 : 1 ≤ m := by omega
              clear hm
              obtain ⟨hor1, hor2⟩ := or_step F (8 * N) p t m (by omega) (by omega)
              have HOR := Lib.hid hor2; clear hor2
              have HTK := hide htk; clear htk
              go_wp2_with fail
              refine (unhide HTK).mono ?_; rintro e w2 ⟨rfl, nq, rfl⟩
              clear HTK
              go_wp2_with fail
              go_roundw
              case rel =>
                refine ⟨t + m, r - m, by omega, by rw [HOR.out], by go_num, ?_, hui.out.own hoi.out⟩
                have h := hui.out.set_ (q := p + (t + m)) (nq := nq)
                rw [show ((p + (t + m) : Nat) : Int) = (p : Int) + t + m from by omega] at h
                exact h
              case measure => simp [intOf] <;> omega
            · obtain rfl : r = 0 := by omega
              obtain rfl : t = k := by omega
              obtain ⟨v, hv⟩ : ∃ v, v = bitsV F (8 * N) p t := ⟨_, rfl⟩
              rw [← hv]
              have hvl : v < 18446744073709551616 := by
                rw [hv]
                have h1 := bitsV_lt F (8 * N) p t
                have h2 : 2 ^ t ≤ 2 ^ 64 := Nat.pow_le_pow_right (by omega) hk
                omega
              have HV := Lib.hid hv; clear hv
              have hsz2 := hui.out.size
              go_wp2_with (at_builtin; refine wpList_u64 _ rfl _ _ rfl (w.heap.size + 2) _ j _ rfl (own_below hoi.out ((Below.refl _ _).alloc (Nat.le_refl _) _)) _ 1 1 [(v : Int)] rfl (Rd.one _ _ _) (by omega) (by simp; omega) ?_; intro G c w1 hown hgr _)
              have HOWN := Lib.hid hown; clear hown
              go_wp2_with fail
              go_roundw
              case rel =>
                refine ⟨j + 1, p + t, by omega, by go_num, Lib.hid ?_, Lib.hid ?_, Lib.hid ?_⟩
                · rw [Nat.add_mul, Nat.one_mul, ← hpj.out]
                · exact hui.out.below (below_of_grown ((Below.refl _ _).alloc hsz2 _) hgr (by simp; omega) (fun g hg => (hoi.out.lt g hg).1))
                · rw [bitsL_snoc, ← hpj.out, ← HV.out]
                  exact HOWN.out
              case measure => simp [intOf] <;> omega
        · obtain rfl : j = M := by omega
          obtain ⟨G, c, rfl⟩ := own_form ho.out
          have hpN : p ≤ 8 * N ∧ 8 * N - p ≤ 7 := by have := HN.out; have := hpj.out; omega
          have hp := HP.out
          rw [← hpj.out] at hp
          have HP2 := Lib.hid hp
          clear hp HP
          go_wp2_with fail
          go_loopw [17] (fun _ wi => ∃ q : Nat, p ≤ q ∧ q ≤ 8 * N ∧ Hid (UnpW w wi A n cap q) ∧ Hid (wi.ownsRow (w.heap.size + 2) 109 1 (.slice G j c) j ((bitsL F (8 * N) k j).map (Value.int .u64))) ∧ Hid (q = p ∨ (q = 8 * N ∧ F % 2 ^ (8 * N - p) = 0))) (fun _ wi => 8 * N - placeOf wi (w.heap.size + 1))
          case atStart => exact ⟨p, by omega, hpN.1, huw, ho, .inl rfl⟩
          case round =>
            obtain ⟨q, hq1, hq2, hui, hoi, hqq⟩ := hrel
            by_cases hlt2 : q < 8 * N
            · obtain rfl : q = p := by have := hqq.out; omega
              have htk := take3_any wr (w.heap.size + 1) w.heap.size N q 8 F A n cap l hui.out.2.1 hui.out.1 (HR.out.below hui.out.2.2) hFl.out.1 (by omega) (by omega) hn (by omega) (by omega) (8 * N - q) (by omega) (by omega)
              have hcell : wr.cell? ⟨w.heap.size + 1, 0, none⟩ = some (.int .i64 q) := by rw [hui.out.2.1.cell]; rfl
              have hbv : bitsV F (8 * N) q (8 * N - q) = F % 2 ^ (8 * N - q) := by
                unfold bitsV
                rw [show 8 * N - (q + (8 * N - q)) = 0 from by omega, Nat.pow_zero, Nat.div_one]
              rw [hbv] at htk
              have hz1 : F % 2 ^ (8 * N - q) < 256 := Nat.lt_of_lt_of_le (Nat.mod_lt _ (Nat.two_pow_pos _)) (Nat.pow_le_pow_right (n := 2) (j := 8) (by omega) (by omega))
              have HTK := hide htk; clear htk hbv
              obtain ⟨z, hz⟩ : ∃ z, z = F % 2 ^ (8 * N - q) := ⟨_, rfl⟩
              rw [← hz] at HTK hz1
              have HZ := Lib.hid hz; clear hz
              go_wp2_with fail
              refine (unhide HTK).mono ?_; rintro e w2 ⟨rfl, nq, rfl⟩
              clear HTK
              rcases Nat.eq_zero_or_pos z with hz0 | hz0
              · subst hz0
                go_wp2_with fail
                go_roundw
                case rel =>
                  have h := hui.out.set_ (q := 8 * N) (nq := nq)
                  rw [show ((8 * N : Nat) : Int) = (q : Int) + (8 * N - q : Nat) from by omega] at h
                  exact ⟨8 * N, by omega, by omega, h, hui.out.own hoi.out, .inr ⟨rfl, HZ.out.symm⟩⟩
                case measure =>
                  rw [hui.out.place]
                  have h := hui.out.set_ (q := 8 * N) (nq := nq)
                  rw [show ((8 * N : Nat) : Int) = (q : Int) + (8 * N - q : Nat) from by omega] at h
                  rw [h.place]
                  omega
              · have hp := HP2.out
                rw [if_neg (by rw [← HZ.out]; omega)] at hp
                injection hp with e1 e2; injection e2 with e2 e3
                subst e1 e2 e3
                go_wp2_with fail
                refine bodyPost_ret (results_tmp3 rfl _ _ _) rfl ?_
                exact UnpackOut.nil (below_drewN (hui.out.2.2.setCell (Nat.le_succ _) _) _)
            · have hcell : wr.cell? ⟨w.heap.size + 1, 0, none⟩ = some (.int .i64 q) := by rw [hui.out.2.1.cell]; rfl
              have hcel2 : wr.cell? ⟨w.heap.size, 0, none⟩ = some (.slice A n cap) := by rw [hui.out.1.cell]; rfl
              have hz : F % 2 ^ (8 * N - p) = 0 := by
                rcases hqq.out with h | h
                · rw [show 8 * N - p = 0 from by omega, Nat.pow_zero, Nat.mod_one]
                · exact h.2
              have hp := HP2.out
              rw [if_pos hz] at hp
              injection hp with e1 e2; injection e2 with e2 e3
              subst e1 e2 e3
              clear hz
              have HSL := Lib.hid (Sl.of_own hoi.out)
              have HRL := Lib.hid (HR.out.below hui.out.2.2)
              rcases Nat.eq_zero_or_pos n with hn0 | hn0
              · subst hn0
                obtain rfl : N = 0 := by omega
                obtain rfl : l = [] := List.eq_nil_of_length_eq_zero HL.out
                go_wp2_with fail
                all_goals
                  refine (Clone_any _ _ _ [] _ (Ri.nil _ _ _) (by omega)).mono ?_; rintro e w2 ⟨G2, n2, c2, rfl, hr2, hb2⟩
                  go_wp2_with fail
                  refine bodyPost_ret (results_tmp3 rfl _ _ _) rfl ?_
                  exact ⟨_, _, _, G2, n2, c2, rfl, HSL.out.below hb2, hr2, on hui.out.2.2 hb2⟩
              · obtain ⟨b, o, hA, _⟩ := HR.out.all hn0
                subst hA
                have HQ := Lib.hid (HRL.out.restIf (i := N) (by omega) (cap := cap) hc)
                go_wp2_with fail
                all_goals
                  have HQ2 := HQ.out
                  first | rw [if_pos (by assumption)] at HQ2 | rw [if_neg (by assumption)] at HQ2
                  refine (Clone_any _ _ _ (l.drop N) _ HQ2 (by omega)).mono ?_; rintro e w2 ⟨G2, n2, c2, rfl, hr2, hb2⟩
                  go_wp2_with fail
                  refine bodyPost_ret (results_tmp3 rfl _ _ _) rfl ?_
                  exact ⟨_, _, _, G2, n2, c2, rfl, HSL.out.below hb2, hr2, on hui.out.2.2 hb2⟩
end Go.Proofs.YtmejoococajikaaGreat

/- bits.Unpack: the rows that it hands back are its own (printed by wip/unpf.py out of XUnp). -/
namespace Go.Proofs.YtmejoococajikaaGreat
open Go.RowKit

set_option maxRecDepth 100000 in
set_option maxHeartbeats 400000 in
theorem CloneF_any (A : Option Addr) (n cap : Nat) (l : List Int) (w : World) (hr : Ri w .u8 A n l) (hn : n ≤ 1000000000) :
    Calls Tryz.prog 108 #[.slice A n cap] w (BytesFresh w l) := by
  obtain ⟨i0, hi, hz0, hz1, hz2⟩ := info_parts info_u8
  have q := fun (w : World) (a : Option Addr) (n c : Nat) => Lib.run_eql_slice_nil (P := Tryz.prog) w 38 5 a n c 0 0 Tryz.underlying38
  have HR := Lib.hid hr; clear hr
  cases A with
  | none =>
    have hn0 : n = 0 := by
      rcases Nat.eq_zero_or_pos n with h | h
      · exact h
      · obtain ⟨b, o, e, _⟩ := HR.out.all h; cases e
    subst hn0
    have hl : l = [] := List.eq_nil_of_length_eq_zero HR.out.len
    subst hl
    go_enter Tryz.func108, Tryz.ntmps108
    go_wp2_with fail
    go_ret
    exact ⟨none, 0, 0, rfl, Sl.nil _ _, Below.refl _ _, fun _ _ h => by cases h⟩
  | some a =>
    go_enter Tryz.func108, Tryz.ntmps108
    go_wp2_with (at_builtin; refine wpList_append_any _ rfl _ _ 38 rfl w.heap.size 5 i0 (.int .u8 0) 1 1 Tryz.underlying38 hi hz0 hz1 hz2 rfl (by decide) _ 0 [] rfl (own_empty w _ 1) _ n _ (l.map (Value.int .u8)) rfl (HR.out.alloc _) (Ri.oneCell _ _) ?c2 ?c3 ?c4 ?_)
    case c2 => unfold maxLen; omega
    case c3 => omega
    case c4 => simp
    intro G c w1 hown hgr _ _
    have HO := Lib.hid hown; clear hown
    go_wp2_with fail
    go_ret
    exact ⟨G, n, c, rfl, Sl.of_own HO.out, push0 ((Below.refl _ _).alloc (Nat.le_refl _) _) (Nat.le_refl _) (own_empty w _ 1) hgr, fun g o h => by subst h; exact (HO.out.lt g rfl).1⟩
set_option maxRecDepth 100000 in
set_option maxHeartbeats 2000000 in
theorem UnpackF_any (w : World) (A : Option Addr) (n cap : Nat) (l : List Int) (m x : Int) (hr : Ri w .u8 A n l) (hu : U8 l) (hc : n ≤ cap) (hn : n ≤ 1000000) (r1 r2 : List Int) (er : Int) (hp : unpackR l m x = (r1, r2, er)) :
    Calls Tryz.prog 162 #[.slice A n cap, .int .i64 m, .int .i64 x] w (UnpackNew w r1 r2 er) := by
  have HL := Lib.hid hr.len
  have HR := Lib.hid hr; clear hr
  have HU := Lib.hid hu; clear hu
  cases hf : fitsB m x
  · unfold unpackR at hp
    rw [if_pos hf] at hp
    injection hp with e1 e2; injection e2 with e2 e3
    subst e1 e2 e3
    have HF := Lib.hid hf; clear hf
    go_enter Tryz.func162, Tryz.ntmps162
    go_wp2_with fail
    refine (fits_any _ _ _).mono ?_; rintro e w' ⟨rfl, rfl⟩
    rw [HF.out]
    go_wp2_with fail
    refine bodyPost_ret (results_tmp3 rfl _ _ _) rfl ?_
    exact UnpackNew.nil ((Below.refl _ _).alloc (Nat.le_refl _) _)
  · have hfb := of_decide_eq_true hf
    obtain ⟨h1, h2, h3, h4⟩ := hfb
    obtain ⟨k, rfl⟩ := Int.eq_ofNat_of_zero_le h3
    obtain ⟨M, rfl⟩ := Int.eq_ofNat_of_zero_le h1
    have hk : k ≤ 64 := by omega
    have hM : M ≤ 4096 := by omega
    clear h1 h2 h3 h4
    obtain ⟨N, hN⟩ : ∃ N, N = (M * k + 7) / 8 := ⟨_, rfl⟩
    have hMk : M * k ≤ 4096 * 64 := Nat.mul_le_mul (by omega) hk
    have hNle : N ≤ 32768 := by omega
    have hsz : Hid (sizeN M k = (N : Int)) := by
      show sizeN M k = _
      unfold sizeN
      rw [hf, if_pos rfl, hN]
      rw [← Int.natCast_mul]; omega
    unfold unpackR at hp
    rw [if_neg (by rw [hf]; simp), hsz.out, Int.toNat_natCast, HL.out, Int.toNat_natCast, Int.toNat_natCast] at hp
    have HN := Lib.hid hN
    have HF := Lib.hid hf; clear hN hf hMk
    by_cases hshort : n < N
    · rw [if_pos hshort] at hp
      injection hp with e1 e2; injection e2 with e2 e3
      subst e1 e2 e3
      go_enter Tryz.func162, Tryz.ntmps162
      go_wp2_with fail
      refine (fits_any _ _ _).mono ?_; rintro e w' ⟨rfl, rfl⟩
      rw [HF.out]
      go_wp2_with fail
      refine (Size_any _ _ _).mono ?_; rintro e w' ⟨rfl, rfl⟩
      rw [hsz.out]
      go_wp2_with fail
      refine bodyPost_ret (results_tmp3 rfl _ _ _) rfl ?_
      exact UnpackNew.nil ((Below.refl _ _).alloc (Nat.le_refl _) _)
    · rw [if_neg hshort] at hp
      simp only at hp
      obtain ⟨F, hF⟩ : ∃ F, F = packV (l.take N) 8 := ⟨_, rfl⟩
      have htl : (l.take N).length = N := by rw [List.length_take, HL.out]; omega
      have hFl : Hid (bytesOf F N = l.take N ∧ F < 256 ^ N) := by
        show _ ∧ _
        refine ⟨?_, ?_⟩
        · have h := bytesOf_packV (l.take N) (HU.out.take _)
          rw [← hF, htl] at h; exact h
        · have h := packV_lt (l.take N) 8 (fun y hy => by have := HU.out.take N y hy; omega)
          rw [← hF, htl] at h
          rwa [pow8, Nat.mul_comm 8]
      rw [← hF] at hp
      have HP := Lib.hid hp
      clear hp hF htl
      go_enter Tryz.func162, Tryz.ntmps162
      go_wp2_with fail
      refine (fits_any _ _ _).mono ?_; rintro e w' ⟨rfl, rfl⟩
      rw [HF.out]
      go_wp2_with fail
      refine (Size_any _ _ _).mono ?_; rintro e w' ⟨rfl, rfl⟩
      rw [hsz.out]
      go_wp2_with fail
      go_loopw [10, 32] (fun v i wr => ∃ j p : Nat, j ≤ M ∧ i = .int .i64 j ∧ Hid (p = j * k) ∧ Hid (UnpW w wr A n cap p) ∧ Hid (wr.ownsRow (w.heap.size + 2) 109 1 v j ((bitsL F (8 * N) k j).map (Value.int .u64)))) (fun _ i _ => M - (intOf i).toNat)
      case atStart =>
        refine ⟨0, 0, by omega, rfl, by show 0 = 0 * k; omega, ?_, World.ownsRow_nil _ _ _ _⟩
        refine ⟨(Blk.new w _ _).alloc _, ?_, ((Below.refl _ _).alloc (Nat.le_refl _) _).alloc (by simp) _⟩
        exact Blk.new_ (by simp)
      case round =>
        obtain ⟨j, p, hj, rfl, hpj, huw, ho⟩ := hrel
        by_cases hlt : j < M
        · have hpk : p + k ≤ 8 * N := by
            have h1 : (j + 1) * k ≤ M * k := Nat.mul_le_mul_right _ hlt
            rw [Nat.add_mul, Nat.one_mul, ← hpj.out] at h1
            have := HN.out
            omega
          go_wp2_with fail
          go_loopw [13, 14] (fun v q wi => ∃ t r : Nat, t + r = k ∧ v = .int .u64 (bitsV F (8 * N) p t) ∧ q = .int .i64 r ∧ Hid (UnpW w wi A n cap (p + t)) ∧ Hid (wi.ownsRow (w.heap.size + 2) 109 1 u10 j ((bitsL F (8 * N) k j).map (Value.int .u64)))) (fun _ q _ => (intOf q).toNat)
          case atStart => exact ⟨0, k, by omega, by unfold bitsV; rw [Nat.pow_zero, Nat.mod_one]; rfl, rfl, huw, ho⟩
          case round =>
            obtain ⟨t, r, htr, rfl, rfl, hui, hoi⟩ := hrel
            by_cases hr0 : 0 < r
            · obtain ⟨m, hm⟩ : ∃ m, m = min r (8 - (p + t) % 8) := ⟨_, rfl⟩
              have htk := take3_any wr (w.heap.size + 1) w.heap.size N (p + t) r F A n cap l hui.out.2.1 hui.out.1 (HR.out.below hui.out.2.2) hFl.out.1 (by omega) (by omega) hn hr0 (by omega) m hm (by omega)
              have hmr : m ≤ r := by omega
              have hm1 : 1 ≤ m := by omega
              clear hm
              obtain ⟨hor1, hor2⟩ := or_step F (8 * N) p t m (by omega) (by omega)
              have HOR := Lib.hid hor2; clear hor2
              have HTK := hide htk; clear htk
              go_wp2_with fail
              refine (unhide HTK).mono ?_; rintro e w2 ⟨rfl, nq, rfl⟩
              clear HTK
              go_wp2_with fail
              go_roundw
              case rel =>
                refine ⟨t + m, r - m, by omega, by rw [HOR.out], by go_num, ?_, hui.out.own hoi.out⟩
                have h := hui.out.set_ (q := p + (t + m)) (nq := nq)
                rw [show ((p + (t + m) : Nat) : Int) = (p : Int) + t + m from by omega] at h
                exact h
              case measure => simp [intOf] <;> omega
            · obtain rfl : r = 0 := by omega
              obtain rfl : t = k := by omega
              obtain ⟨v, hv⟩ : ∃ v, v = bitsV F (8 * N) p t := ⟨_, rfl⟩
              rw [← hv]
              have hvl : v < 18446744073709551616 := by
                rw [hv]
                have h1 := bitsV_lt F (8 * N) p t
                have h2 : 2 ^ t ≤ 2 ^ 64 := Nat.pow_le_pow_right (by omega) hk
                omega
              have HV := Lib.hid hv; clear hv
              have hsz2 := hui.out.size
              go_wp2_with (at_builtin; refine wpList_u64 _ rfl _ _ rfl (w.heap.size + 2) _ j _ rfl (own_below hoi.out ((Below.refl _ _).alloc (Nat.le_refl _) _)) _ 1 1 [(v : Int)] rfl (Rd.one _ _ _) (by omega) (by simp; omega) ?_; intro G c w1 hown hgr _)
              have HOWN := Lib.hid hown; clear hown
              go_wp2_with fail
              go_roundw
              case rel =>
                refine ⟨j + 1, p + t, by omega, by go_num, Lib.hid ?_, Lib.hid ?_, Lib.hid ?_⟩
                · rw [Nat.add_mul, Nat.one_mul, ← hpj.out]
                · exact hui.out.below (below_of_grown ((Below.refl _ _).alloc hsz2 _) hgr (by simp; omega) (fun g hg => (hoi.out.lt g hg).1))
                · rw [bitsL_snoc, ← hpj.out, ← HV.out]
                  exact HOWN.out
              case measure => simp [intOf] <;> omega
        · obtain rfl : j = M := by omega
          obtain ⟨G, c, rfl⟩ := own_form ho.out
          have hpN : p ≤ 8 * N ∧ 8 * N - p ≤ 7 := by have := HN.out; have := hpj.out; omega
          have hp := HP.out
          rw [← hpj.out] at hp
          have HP2 := Lib.hid hp
          clear hp HP
          go_wp2_with fail
          go_loopw [17] (fun _ wi => ∃ q : Nat, p ≤ q ∧ q ≤ 8 * N ∧ Hid (UnpW w wi A n cap q) ∧ Hid (wi.ownsRow (w.heap.size + 2) 109 1 (.slice G j c) j ((bitsL F (8 * N) k j).map (Value.int .u64))) ∧ Hid (q = p ∨ (q = 8 * N ∧ F % 2 ^ (8 * N - p) = 0))) (fun _ wi => 8 * N - placeOf wi (w.heap.size + 1))
          case atStart => exact ⟨p, by omega, hpN.1, huw, ho, .inl rfl⟩
          case round =>
            obtain ⟨q, hq1, hq2, hui, hoi, hqq⟩ := hrel
            by_cases hlt2 : q < 8 * N
            · obtain rfl : q = p := by have := hqq.out; omega
              have htk := take3_any wr (w.heap.size + 1) w.heap.size N q 8 F A n cap l hui.out.2.1 hui.out.1 (HR.out.below hui.out.2.2) hFl.out.1 (by omega) (by omega) hn (by omega) (by omega) (8 * N - q) (by omega) (by omega)
              have hcell : wr.cell? ⟨w.heap.size + 1, 0, none⟩ = some (.int .i64 q) := by rw [hui.out.2.1.cell]; rfl
              have hbv : bitsV F (8 * N) q (8 * N - q) = F % 2 ^ (8 * N - q) := by
                unfold bitsV
                rw [show 8 * N - (q + (8 * N - q)) = 0 from by omega, Nat.pow_zero, Nat.div_one]
              rw [hbv] at htk
              have hz1 : F % 2 ^ (8 * N - q) < 256 := Nat.lt_of_lt_of_le (Nat.mod_lt _ (Nat.two_pow_pos _)) (Nat.pow_le_pow_right (n := 2) (j := 8) (by omega) (by omega))
              have HTK := hide htk; clear htk hbv
              obtain ⟨z, hz⟩ : ∃ z, z = F % 2 ^ (8 * N - q) := ⟨_, rfl⟩
              rw [← hz] at HTK hz1
              have HZ := Lib.hid hz; clear hz
              go_wp2_with fail
              refine (unhide HTK).mono ?_; rintro e w2 ⟨rfl, nq, rfl⟩
              clear HTK
              rcases Nat.eq_zero_or_pos z with hz0 | hz0
              · subst hz0
                go_wp2_with fail
                go_roundw
                case rel =>
                  have h := hui.out.set_ (q := 8 * N) (nq := nq)
                  rw [show ((8 * N : Nat) : Int) = (q : Int) + (8 * N - q : Nat) from by omega] at h
                  exact ⟨8 * N, by omega, by omega, h, hui.out.own hoi.out, .inr ⟨rfl, HZ.out.symm⟩⟩
                case measure =>
                  rw [hui.out.place]
                  have h := hui.out.set_ (q := 8 * N) (nq := nq)
                  rw [show ((8 * N : Nat) : Int) = (q : Int) + (8 * N - q : Nat) from by omega] at h
                  rw [h.place]
                  omega
              · have hp := HP2.out
                rw [if_neg (by rw [← HZ.out]; omega)] at hp
                injection hp with e1 e2; injection e2 with e2 e3
                subst e1 e2 e3
                go_wp2_with fail
                refine bodyPost_ret (results_tmp3 rfl _ _ _) rfl ?_
                exact UnpackNew.nil (below_drewN (hui.out.2.2.setCell (Nat.le_succ _) _) _)
            · have hcell : wr.cell? ⟨w.heap.size + 1, 0, none⟩ = some (.int .i64 q) := by rw [hui.out.2.1.cell]; rfl
              have hcel2 : wr.cell? ⟨w.heap.size, 0, none⟩ = some (.slice A n cap) := by rw [hui.out.1.cell]; rfl
              have hz : F % 2 ^ (8 * N - p) = 0 := by
                rcases hqq.out with h | h
                · rw [show 8 * N - p = 0 from by omega, Nat.pow_zero, Nat.mod_one]
                · exact h.2
              have hp := HP2.out
              rw [if_pos hz] at hp
              injection hp with e1 e2; injection e2 with e2 e3
              subst e1 e2 e3
              clear hz
              have HSL := Lib.hid (Sl.of_own hoi.out)
              have HRL := Lib.hid (HR.out.below hui.out.2.2)
              rcases Nat.eq_zero_or_pos n with hn0 | hn0
              · subst hn0
                obtain rfl : N = 0 := by omega
                obtain rfl : l = [] := List.eq_nil_of_length_eq_zero HL.out
                go_wp2_with fail
                all_goals
                  refine (CloneF_any _ _ _ [] _ (Ri.nil _ _ _) (by omega)).mono ?_; rintro e w2 ⟨G2, n2, c2, rfl, hr2, hb2, hf2⟩
                  go_wp2_with fail
                  refine bodyPost_ret (results_tmp3 rfl _ _ _) rfl ?_
                  exact ⟨_, _, _, G2, n2, c2, rfl, HSL.out.below hb2, hr2, on hui.out.2.2 hb2, own_mono (own_below hoi.out hb2) (by omega), fun g o h => Nat.le_trans hui.out.2.2.size (hf2 g o h)⟩
              · obtain ⟨b, o, hA, _⟩ := HR.out.all hn0
                subst hA
                have HQ := Lib.hid (HRL.out.restIf (i := N) (by omega) (cap := cap) hc)
                go_wp2_with fail
                all_goals
                  have HQ2 := HQ.out
                  first | rw [if_pos (by assumption)] at HQ2 | rw [if_neg (by assumption)] at HQ2
                  refine (CloneF_any _ _ _ (l.drop N) _ HQ2 (by omega)).mono ?_; rintro e w2 ⟨G2, n2, c2, rfl, hr2, hb2, hf2⟩
                  go_wp2_with fail
                  refine bodyPost_ret (results_tmp3 rfl _ _ _) rfl ?_
                  exact ⟨_, _, _, G2, n2, c2, rfl, HSL.out.below hb2, hr2, on hui.out.2.2 hb2, own_mono (own_below hoi.out hb2) (by omega), fun g o h => Nat.le_trans hui.out.2.2.size (hf2 g o h)⟩
end Go.Proofs.YtmejoococajikaaGreat

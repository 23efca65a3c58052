/- The method patched of patched.run: patches are laid onto numbers. -/
import Derived.Test.YtpngbljfboceeaaPlainPt
import Derived.Test.YtpngbljfboceeaaPlainPb
import Derived.Test.YtpngbljfboceeaaFreshU
namespace Go.Proofs.Ytpngbljfboceeaa
open Go.RowKit

/-- A row that may be written: block g, from its first cell on; all else is as it was. -/
def LowW (w0 w : World) (g n : Nat) (l : List Int) : Prop :=
  ∃ cur, Blk w g 50 cur ∧ l.length = n ∧ (∀ j, j < n → cur[j]? = some (.int .u64 (l.getD j 0))) ∧ w0.grownBy w (some g)
theorem LowW.cell {w0 w : World} {g n : Nat} {l : List Int} (h : LowW w0 w g n l) {j : Nat} (hj : j < n) : w.cell? ⟨g, j, none⟩ = some (.int .u64 (l.getD j 0)) := by
  obtain ⟨cur, hb, _, hc, _⟩ := h
  rw [hb.cell]; exact hc j hj
theorem LowW.frozen {w0 w : World} {g n : Nat} {l : List Int} (h : LowW w0 w g n l) (j : Nat) : w.frozen? ⟨g, j, none⟩ = false := by
  obtain ⟨cur, hb, _⟩ := h
  exact hb.frozen j
theorem LowW.len {w0 w : World} {g n : Nat} {l : List Int} (h : LowW w0 w g n l) : l.length = n := by obtain ⟨_, _, h, _⟩ := h; exact h
theorem LowW.lt {w0 w : World} {g n : Nat} {l : List Int} (h : LowW w0 w g n l) : g < w.heap.size := by obtain ⟨_, h, _⟩ := h; exact h.lt
theorem LowW.grown {w0 w : World} {g n : Nat} {l : List Int} (h : LowW w0 w g n l) : w0.grownBy w (some g) := by obtain ⟨_, _, _, _, h⟩ := h; exact h
theorem LowW.alloc {w0 w : World} {g n : Nat} {l : List Int} (h : LowW w0 w g n l) (o : Obj) : LowW w0 (w.alloc o) g n l := by
  obtain ⟨cur, hb, hl, hc, hg⟩ := h
  exact ⟨cur, hb.alloc o, hl, hc, hg.trans (World.grownBy_alloc w o _)⟩
theorem LowW.drew {w0 w : World} {g n : Nat} {l : List Int} (h : LowW w0 w g n l) : LowW w0 w.drew g n l := by
  obtain ⟨cur, hb, hl, hc, hg⟩ := h
  exact ⟨cur, hb, hl, hc, ⟨hg.os, hg.tape, hg.output, hg.size, hg.block⟩⟩
theorem LowW.set_ {w0 w : World} {g n : Nat} {l : List Int} (h : LowW w0 w g n l) {i : Nat} (hi : i < n) (x : Int) : LowW w0 (w.setCell ⟨g, i, none⟩ (.int .u64 x)) g n (l.set i x) := by
  obtain ⟨cur, hb, hl, hc, hg⟩ := h
  refine ⟨_, hb.set_ i _, by rw [List.length_set]; exact hl, fun j hj => ?_, hg.trans ⟨rfl, rfl, rfl, by simp [World.setCell], fun k _ hk => Below.heap_setCell w _ _ k (fun e => hk (by rw [e]))⟩⟩
  have hsz : i < cur.size := by
    have := hc i hi
    exact (Array.getElem?_eq_some_iff.1 this).1
  by_cases hij : i = j
  · subst hij
    rw [Array.getElem?_setIfInBounds_self_of_lt hsz, List.getD, List.getElem?_set_self (by rw [hl]; exact hi)]; rfl
  · rw [Array.getElem?_setIfInBounds_ne hij, hc j hj, List.getD, List.getD, List.getElem?_set_ne hij]
theorem LowW.start {w : World} {B n c : Nat} {G : Option Addr} {l : List Int} (h : w.ownsRow B 50 1 (.slice G n c) n (l.map (Value.int .u64))) (hn : 1 ≤ n) : ∃ g, G = some ⟨g, 0, none⟩ ∧ B ≤ g ∧ LowW w w g n l := by
  have hr := Ri.of_own h
  rcases h.2 with ⟨_, h0⟩ | ⟨g, cap, cur, e, hB, hb, _⟩
  · omega
  · injection e with e1 e2 e3
    subst e1
    obtain ⟨b, o, e, _, hc⟩ := hr.all (by omega)
    injection e with e; injection e with e1 e2
    subst e1 e2
    refine ⟨_, rfl, hB, cur, hb, hr.len, fun j hj => ?_, World.grownBy.refl _ _⟩
    have h1 := hc j hj
    rw [Nat.zero_add, (show Blk w _ _ cur from hb).cell] at h1
    exact h1
theorem LowW.ri {w0 w : World} {g n : Nat} {l : List Int} (h : LowW w0 w g n l) : Ri w .u64 (some ⟨g, 0, none⟩) n l :=
  Ri.mk_ h.len h.lt fun j hj => by rw [Nat.zero_add]; exact h.cell hj
/-- What is not in the row's block reads as it did. -/
theorem LowW.far {w0 w : World} {g n m : Nat} {l r : List Int} {k : IntKind} {A : Option Addr} (h : LowW w0 w g n l) (hr : Ri w0 k A m r) (hA : ∀ b o, A = some ⟨b, o, none⟩ → b ≠ g) : Ri w k A m r :=
  hr.grown h.grown (fun g' b o h1 h2 => by injection h1 with h1; subst h1; exact (hA b o h2).symm)
theorem LowW.blk {w0 w : World} {g n b : Nat} {l : List Int} {t : TypeId} {cs : Array Value} (h : LowW w0 w g n l) (hk : Blk w0 b t cs) (hb : b ≠ g) : Blk w b t cs := hk.grown h.grown (fun e => hb (by injection e))
theorem LowW.trans {w0 w1 w : World} {g n m : Nat} {l l2 : List Int} (h : LowW w0 w1 g n l) (k : LowW w1 w g m l2) : LowW w0 w g m l2 := by
  obtain ⟨cur, hb, hl, hc, hg⟩ := k
  exact ⟨cur, hb, hl, hc, h.grown.trans hg⟩
theorem LowW.self {w0 w : World} {g n : Nat} {l : List Int} (h : LowW w0 w g n l) : LowW w w g n l := by
  obtain ⟨cur, hb, hl, hc, hg⟩ := h
  exact ⟨cur, hb, hl, hc, World.grownBy.refl _ _⟩
theorem mask64 (x : Int) (K : Nat) (hx : 0 ≤ x ∧ x < 18446744073709551616) (hK : K < 64) : IntKind.u64.wrap (2 ^ K) = 2 ^ K ∧ IntKind.u64.wrap (2 ^ K - 1) = 2 ^ K - 1 ∧ bits BinOp.and IntKind.u64 x (2 ^ K - 1) = x % 2 ^ K := by
  have h := and_low64 x K hx hK
  have h1 : 1 ≤ 2 ^ K := Nat.one_le_two_pow
  have h2 : 2 ^ K ≤ 2 ^ 63 := Nat.pow_le_pow_right (by omega) (by omega)
  have e : (2 : Int) ^ K = ((2 ^ K : Nat) : Int) := by simp
  have e1 : IntKind.u64.wrap (2 ^ K) = 2 ^ K := by rw [e, IntKind.wrap_u64]; omega
  have e2 : IntKind.u64.wrap (2 ^ K - 1) = 2 ^ K - 1 := by rw [e, IntKind.wrap_u64]; omega
  rw [e1, e2] at h
  exact ⟨e1, e2, h⟩

def PatOut (w : World) (g n : Nat) (r : Option (List Int × Nat)) (e : Ending) (w' : World) : Prop :=
  ∃ l2, e = .returned (.bool r.isSome) ∧ LowW w w' g n l2 ∧ ∀ s, r = some s → l2 = s.1
theorem ediv_zero {q m : Int} (hm : 0 < m) (h : q / m = 0) : q < m := by
  have h1 := Int.emod_lt_of_pos q hm
  have h2 := Int.ediv_mul_add_emod q m
  rw [h, Int.zero_mul] at h2
  omega

set_option maxRecDepth 100000 in
set_option maxHeartbeats 4000000 in
theorem patched_any (w : World) (g n c : Nat) (A2 : Option Addr) (n2 c2 : Nat) (low both : List Int) (B : Int) (K gp W : Nat) (hlow : LowW w w g n low) (hb : Ri w .u64 A2 n2 both) (hub : U64 both) (hA2 : ∀ b o, A2 = some ⟨b, o, none⟩ → b ≠ g)
    (hK : K < 64) (hg1 : 1 ≤ gp) (hg8 : gp ≤ 8) (hW : W ≤ 64) (hn : n ≤ 1000) (hn2 : n2 ≤ 1000) :
    Calls Try.prog 63 #[.agg #[.int .i64 B, .slice (some ⟨g, 0, none⟩) n c, .slice none 0 0, .int .i64 gp, .int .i64 K], .slice A2 n2 c2, .int .i64 W] w
      (PatOut w g n (patchN K gp W low both n2)) := by
  have HLOW := Lib.hid hlow; have HB := Lib.hid hb; have HUB := Lib.hid hub; have HN2 := Lib.hid hb.len
  have hgw := hlow.lt
  have HA2 := Lib.hid hA2
  clear hlow hb hub hA2
  go_enter Try.func63, Try.ntmps63
  go_wp2_with fail
  go_loopw [7, 14] (fun at_ i wr => ∃ (j a : Nat) (l : List Int), j ≤ n2 ∧ i = .int .i64 j ∧ at_ = .int .i64 a ∧ a ≤ n ∧ Hid (patchN K gp W low both j = some (l, a)) ∧ Hid (LowW w wr g n l) ∧ Hid (Blk wr w.heap.size 63 #[.int .i64 B, .slice (some ⟨g, 0, none⟩) n c, .slice none 0 0, .int .i64 gp, .int .i64 K])) (fun _ i _ => n2 - (intOf i).toNat)
  case atStart => exact ⟨0, 0, low, by omega, rfl, rfl, by omega, rfl, HLOW.out.alloc _, Blk.new _ _ _⟩
  case round =>
    obtain ⟨j, a, l, hj, rfl, rfl, ha, hpn, hlw, hbk⟩ := hrel
    by_cases hlt : j < n2
    · obtain ⟨b2, o2, rfl, hbl2, hcell⟩ := HB.out.at_ hlt
      have hne := HA2.out b2 o2 rfl
      have hx := HUB.out _ (getD_mem both j (by rw [HN2.out]; exact hlt))
      have g1 := (LowW.far hlw.out HB.out HA2.out)
      obtain ⟨b2', o2', e, _, hc2⟩ := g1.all (by omega)
      injection e with e; injection e with e1 e2; subst e1 e2
      have g1 := hc2 j hlt
      have hstep := patchN_succ K gp W low both j l a hpn.out
      have hbadn := @patchN_bad K gp W low both j n2 l a hpn.out hlt
      obtain ⟨x, hxe⟩ : ∃ x, x = both.getD j 0 := ⟨_, rfl⟩
      rw [← hxe] at g1 hx hstep hbadn
      have HSTEP := Lib.hid hstep; have HBADN := Lib.hid hbadn
      obtain ⟨hm1, hm2, hm3⟩ := mask64 x K hx hK
      have hdv := div_range x K hx
      have hk4 : wr.cell? ⟨w.heap.size, 4, none⟩ = some (.int .i64 K) := (hbk.out.cell 4).trans rfl
      have hk3 : wr.cell? ⟨w.heap.size, 3, none⟩ = some (.int .i64 gp) := (hbk.out.cell 3).trans rfl
      have hk1 : wr.cell? ⟨w.heap.size, 1, none⟩ = some (.slice (some ⟨g, 0, none⟩) n c) := (hbk.out.cell 1).trans rfl
      have hpr : 0 ≤ x % 2 ^ K ∧ x % 2 ^ K ≤ x := by
        have hk : (0 : Int) < 2 ^ K := Int.pow_pos (by decide)
        refine ⟨Int.emod_nonneg _ (by omega), ?_⟩
        have h1 := Int.ediv_mul_add_emod x (2 ^ K)
        have h2 : 0 ≤ x / 2 ^ K * 2 ^ K := Int.mul_nonneg hdv.1 (by omega)
        omega
      have hll := hlw.out.len
      have hsb := @patchStep_bad K gp W l a x
      have hso := @patchStep_ok K gp W l a x
      rw [hll] at hsb hso
      obtain ⟨p, hp⟩ : ∃ p, p = x % 2 ^ K := ⟨_, rfl⟩
      rw [← hp] at hm3 hpr hsb hso
      obtain ⟨q, hq⟩ : ∃ q, q = x / 2 ^ K := ⟨_, rfl⟩
      rw [← hq] at hdv hsb hso
      have HSB := Lib.hid hsb; have HSO := Lib.hid hso; have HLL := Lib.hid hll
      clear hcell hc2 hstep hbadn hxe hll hsb hso hp
      have hpw : (2 : Int) ^ gp ≤ 256 := by
        have h1 : 2 ^ gp ≤ 2 ^ 8 := Nat.pow_le_pow_right (by omega) hg8
        have e : ((2 ^ gp : Nat) : Int) = 2 ^ gp := by simp
        rw [← e]; omega
      have hpw0 : (0 : Int) < 2 ^ gp := Int.pow_pos (by decide)
      have hdsz := hbk.out.lt
      by_cases c1 : q < 2 ^ gp
      · have hqz : q / 2 ^ gp = 0 := Int.ediv_eq_zero_of_lt hdv.1 c1
        obtain ⟨Q, hQe⟩ := Int.eq_ofNat_of_zero_le hdv.1
        subst hQe
        have hQ : Q < 256 := by omega
        have hq2 := hq.symm
        rw [Int.toNat_natCast] at HSB HSO
        have hqb : ((Q : Int) / 2 ^ gp != 0) = false := by simp [hqz]
        have HC1 := Lib.hid c1
        clear hq hdv hqz hpw hpw0 c1
        by_cases c2 : n ≤ a + Q
        · have hnone := HBADN.out (HSB.out (.inr (.inl c2)))
          have HNONE := Lib.hid hnone
          clear hnone
          go_wp2_with fail
          go_ret
          exact ⟨l, by rw [HNONE.out]; rfl, hlw.out, fun s h => by rw [HNONE.out] at h; cases h⟩
        · have hcl := hlw.out.cell (j := a + Q) (by omega)
          have hfz := hlw.out.frozen (a + Q)
          by_cases c3 : p = 0
          · have hok := HSTEP.out.trans (HSO.out HC1.out (by omega) (.inl c3))
            have hpb : (p != 0) = false := by simp [c3]
            have HOK := Lib.hid hok
            have hgne : g ≠ w.heap.size := by omega
            clear hok c3
            go_wp2_with fail
            go_region
            all_goals
              go_wp2_with fail
              go_roundw
              case rel => exact ⟨j + 1, a + Q, _, by omega, by go_num, by go_num, by omega, HOK, by first | exact (hlw.out.set_ (by omega) _).drew | exact hlw.out.drew.set_ (by omega) _ | exact hlw.out.set_ (by omega) _, by first | exact (hbk.out.far (p := ⟨g, a + Q, none⟩) (Ne.symm hgne) _).drew | exact hbk.out.drew.far (p := ⟨g, a + Q, none⟩) (Ne.symm hgne) _ | exact hbk.out.far (p := ⟨g, a + Q, none⟩) (Ne.symm hgne) _⟩
              case measure => simp [intOf] <;> omega
          · have hpb : (p != 0) = true := by simp [c3]
            obtain ⟨bl, hbl⟩ : ∃ bl, blen p.toNat = bl := ⟨_, rfl⟩
            have hblb : bl ≤ 64 := by rw [← hbl]; exact blen_64 _ (by omega)
            have HBL := Lib.hid hbl
            by_cases c4 : 64 ≤ bl + W
            · have hnone := HBADN.out (HSB.out (.inr (.inr ⟨c3, by rw [hbl]; exact c4⟩)))
              have HNONE := Lib.hid hnone
              clear hnone hbl c3
              go_wp2_with fail
              refine (Bits_any p _ (by omega) (by omega)).mono ?_; rintro e w' ⟨rfl, rfl⟩
              rw [HBL.out]
              go_wp2_with fail
              go_ret
              exact ⟨l, by rw [HNONE.out]; rfl, hlw.out, fun s h => by rw [HNONE.out] at h; cases h⟩
            · have hok := HSTEP.out.trans (HSO.out HC1.out (by omega) (.inr (by rw [hbl]; omega)))
              have HOK := Lib.hid hok
              have hgne : g ≠ w.heap.size := by omega
              clear hok c3 hbl
              go_wp2_with fail
              refine (Bits_any p _ (by omega) (by omega)).mono ?_; rintro e w' ⟨rfl, rfl⟩
              rw [HBL.out]
              go_wp2_with fail
              go_region
              all_goals
                go_wp2_with fail
                go_roundw
                case rel => exact ⟨j + 1, a + Q, _, by omega, by go_num, by go_num, by omega, HOK, by first | exact (hlw.out.set_ (by omega) _).drew | exact hlw.out.drew.set_ (by omega) _ | exact hlw.out.set_ (by omega) _, by first | exact (hbk.out.far (p := ⟨g, a + Q, none⟩) (Ne.symm hgne) _).drew | exact hbk.out.drew.far (p := ⟨g, a + Q, none⟩) (Ne.symm hgne) _ | exact hbk.out.far (p := ⟨g, a + Q, none⟩) (Ne.symm hgne) _⟩
                case measure => simp [intOf] <;> omega
      · have hqz : ¬ q / 2 ^ gp = 0 := fun h => c1 (ediv_zero hpw0 h)
        have hqb : (q / 2 ^ gp != 0) = true := by simp [hqz]
        have hnone := HBADN.out (HSB.out (.inl c1))
        have HNONE := Lib.hid hnone
        clear hnone
        rw [hq] at hqb hqz
        clear hq
        go_wp2_with fail
        go_ret
        exact ⟨l, by rw [HNONE.out]; rfl, hlw.out, fun s h => by rw [HNONE.out] at h; cases h⟩
    · obtain rfl : j = n2 := by omega
      go_wp2_with fail
      go_ret
      exact ⟨l, by rw [hpn.out]; rfl, hlw.out, fun s h => by rw [hpn.out] at h; injection h with h; rw [← h]⟩
end Go.Proofs.Ytpngbljfboceeaa

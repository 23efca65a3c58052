/- Joined texts: PlainU, PAdd. Each has its own head line. No condition beyond those that its theorems state. -/
import Derived.Deep.RegionWith
import Derived.Test.YtmejoococajikaaGreatJ08
import Derived.Test.YtmejoococajikaaGreatJ10
set_option linter.unusedVariables false

/- Plain laws: bits of a number. -/
namespace Go.Proofs.YtmejoococajikaaGreat

theorem snoc_ind {p : List Int → Prop} (h0 : p []) (h1 : ∀ l y, p l → p (l ++ [y])) (l : List Int) : p l := by
  have : ∀ k : List Int, p k.reverse := by
    intro k
    induction k with
    | nil => exact h0
    | cons y k ih => rw [List.reverse_cons]; exact h1 _ _ ih
  rw [← List.reverse_reverse l]; exact this _
/-- k bits of a number of T bits, from place a. -/
def bitsV (F T a k : Nat) : Nat := F / 2 ^ (T - (a + k)) % 2 ^ k
theorem bitsV_lt (F T a k : Nat) : bitsV F T a k < 2 ^ k := Nat.mod_lt _ (Nat.two_pow_pos _)
theorem bitsV_add (F T a k m : Nat) (h : a + k + m ≤ T) : bitsV F T a (k + m) = bitsV F T a k * 2 ^ m + bitsV F T (a + k) m := by
  unfold bitsV
  have e : T - (a + k) = T - (a + k + m) + m := by omega
  rw [e, ← Nat.add_assoc, Nat.pow_add 2 (T - (a + k + m)) m, ← Nat.div_div_eq_div_mul]
  generalize F / 2 ^ (T - (a + k + m)) = q
  rw [Nat.pow_add, Nat.mul_comm (2 ^ k), Nat.mod_mul, Nat.add_comm, Nat.mul_comm (2 ^ m)]
/-- What is taken of a byte. -/
theorem bits_byte (F N a m : Nat) (h : a + m ≤ 8 * N) (hm0 : 1 ≤ m) (hm : m ≤ 8 - a % 8) :
    byteAt F N (a / 8) * 2 ^ (a % 8) % 256 / 2 ^ (8 - m) = bitsV F (8 * N) a m := by
  unfold byteAt bitsV
  have e0 : (256 : Nat) = 2 ^ (8 - a % 8) * 2 ^ (a % 8) := by rw [← Nat.pow_add, show 8 - a % 8 + a % 8 = 8 from by omega]
  have e1 : 256 ^ (N - 1 - a / 8) = 2 ^ (8 * (N - 1 - a / 8)) := pow8 _
  rw [e1]
  have e2 : 8 * N - (a + m) = 8 * (N - 1 - a / 8) + (8 - a % 8 - m) := by omega
  rw [e2, Nat.pow_add, ← Nat.div_div_eq_div_mul]
  generalize F / 2 ^ (8 * (N - 1 - a / 8)) = q
  have e3 : q % 256 * 2 ^ (a % 8) % 256 = q % 2 ^ (8 - a % 8) * 2 ^ (a % 8) := by
    rw [Nat.mod_mul_mod]
    conv => lhs; rw [e0]
    exact Nat.mul_mod_mul_right _ _ _
  rw [e3]
  have e4 : 2 ^ (8 - m) = 2 ^ (a % 8) * 2 ^ (8 - a % 8 - m) := by rw [← Nat.pow_add]; congr 1; omega
  rw [e4, ← Nat.div_div_eq_div_mul, Nat.mul_div_cancel _ (Nat.two_pow_pos _)]
  have e5 : 2 ^ (8 - a % 8) = 2 ^ (8 - a % 8 - m) * 2 ^ m := by rw [← Nat.pow_add]; congr 1; omega
  rw [e5, Nat.mod_mul_right_div_self]
theorem bit_byte (F N a : Nat) (h : a < 8 * N) :
    byteAt F N (a / 8) / 2 ^ (7 - a % 8) % 2 = bitsV F (8 * N) a 1 := by
  unfold byteAt bitsV
  have e1 : 256 ^ (N - 1 - a / 8) = 2 ^ (8 * (N - 1 - a / 8)) := pow8 _
  rw [e1]
  have e2 : 8 * N - (a + 1) = 8 * (N - 1 - a / 8) + (7 - a % 8) := by omega
  rw [e2, Nat.pow_add, ← Nat.div_div_eq_div_mul]
  generalize F / 2 ^ (8 * (N - 1 - a / 8)) = q
  have e0 : (256 : Nat) = 2 ^ (7 - a % 8) * 2 ^ (1 + a % 8) := by rw [← Nat.pow_add, show 7 - a % 8 + (1 + a % 8) = 8 from by omega]
  rw [e0, Nat.mod_mul_right_div_self, Nat.pow_add, Nat.pow_one, Nat.mod_mul_right_mod]
theorem packV_lt (l : List Int) (x : Nat) (h : ∀ y ∈ l, y.toNat < 2 ^ x) : packV l x < 2 ^ (l.length * x) := by
  induction l using snoc_ind with
  | h0 => simp [packV]
  | h1 l y ih =>
    have h1 := ih fun z hz => h z (by simp [hz])
    have h2 := h y (by simp)
    rw [packV_snoc, List.length_append, List.length_singleton, Nat.add_mul, Nat.one_mul, Nat.pow_add]
    have h3 : packV l x * 2 ^ x + 2 ^ x ≤ 2 ^ (l.length * x) * 2 ^ x := by
      rw [← Nat.succ_mul]; exact Nat.mul_le_mul_right _ h1
    omega
/-- A number in the row of packed ones. -/
theorem packV_get (l : List Int) (x : Nat) (h : ∀ y ∈ l, y.toNat < 2 ^ x) (i : Nat) (hi : i < l.length) :
    packV l x / 2 ^ ((l.length - 1 - i) * x) % 2 ^ x = (l.getD i 0).toNat := by
  induction l using snoc_ind with
  | h0 => simp at hi
  | h1 l y ih =>
    have h2 := h y (by simp)
    rw [packV_snoc]
    simp only [List.length_append, List.length_singleton] at hi ⊢
    rcases Nat.lt_or_ge i l.length with hlt | hge
    · have e : l.length + 1 - 1 - i = (l.length - 1 - i) + 1 := by omega
      rw [e, Nat.add_mul, Nat.one_mul, Nat.add_comm _ y.toNat, Nat.add_comm _ x, Nat.pow_add, ← Nat.div_div_eq_div_mul, Nat.add_mul_div_right _ _ (Nat.two_pow_pos _), Nat.div_eq_of_lt h2, Nat.zero_add, ih (fun z hz => h z (by simp [hz])) hlt]
      simp [List.getD, List.getElem?_append_left hlt]
    · obtain rfl : i = l.length := by omega
      rw [show l.length + 1 - 1 - l.length = 0 from by omega, Nat.zero_mul, Nat.pow_zero, Nat.div_one, Nat.add_comm, Nat.add_mul_mod_self_right, Nat.mod_eq_of_lt h2]
      simp [List.getD]
theorem bytesOf_inj (X Y N : Nat) (hX : X < 256 ^ N) (hY : Y < 256 ^ N) (h : bytesOf X N = bytesOf Y N) : X = Y := by
  induction N generalizing X Y with
  | zero => simp at hX hY; omega
  | succ N ih =>
    have hj : ∀ j, j < N + 1 → byteAt X (N + 1) j = byteAt Y (N + 1) j := by
      intro j hj
      have := congrArg (fun l => l[j]?) h
      simp only [bytesOf_get _ _ _ hj, Option.some.injEq] at this
      omega
    have e1 : X % 256 = Y % 256 := by have := hj N (by omega); simpa [byteAt] using this
    have e2 : X / 256 = Y / 256 := by
      apply ih
      · rw [Nat.div_lt_iff_lt_mul (by omega)]; rwa [Nat.pow_succ] at hX
      · rw [Nat.div_lt_iff_lt_mul (by omega)]; rwa [Nat.pow_succ] at hY
      · apply List.ext_getElem?
        intro j
        rcases Nat.lt_or_ge j N with hlt | hge
        · rw [bytesOf_get _ _ _ hlt, bytesOf_get _ _ _ hlt]
          have := hj j (by omega)
          unfold byteAt at this ⊢
          rw [show N + 1 - 1 - j = 1 + (N - 1 - j) from by omega, p256, Nat.pow_one, ← Nat.div_div_eq_div_mul, ← Nat.div_div_eq_div_mul] at this
          rw [this]
        · rw [List.getElem?_eq_none (by rw [bytesOf_len]; exact hge), List.getElem?_eq_none (by rw [bytesOf_len]; exact hge)]
    omega
/-- A row of bytes is the bytes of its number. -/
theorem bytesOf_packV (l : List Int) (h : U8 l) : bytesOf (packV l 8) l.length = l := by
  apply List.ext_getElem?
  intro j
  rcases Nat.lt_or_ge j l.length with hlt | hge
  · rw [bytesOf_get _ _ _ hlt]
    have e := packV_get l 8 (fun y hy => by have := h y hy; omega) j hlt
    unfold byteAt
    rw [pow8, Nat.mul_comm 8]
    rw [show (256 : Nat) = 2 ^ 8 from rfl, e]
    have h2 := h _ (getD_mem l j hlt)
    rw [List.getElem?_eq_getElem hlt]
    rw [show l.getD j 0 = l[j] from by simp [List.getD, hlt]] at h2 ⊢
    congr 1; omega
  · rw [List.getElem?_eq_none (by rw [bytesOf_len]; exact hge), List.getElem?_eq_none hge]
/-- The numbers of which a number is made. -/
def bitsL (F T x m : Nat) : List Int := (List.range m).map fun i => (bitsV F T (i * x) x : Int)
theorem bitsL_len (F T x m : Nat) : (bitsL F T x m).length = m := by simp [bitsL]
theorem bitsL_snoc (F T x m : Nat) : bitsL F T x (m + 1) = bitsL F T x m ++ [(bitsV F T (m * x) x : Int)] := by simp [bitsL, List.range_succ]
theorem packV_bitsL (F T x m : Nat) (hF : F < 2 ^ T) (h : m * x ≤ T) : packV (bitsL F T x m) x = F / 2 ^ (T - m * x) := by
  induction m with
  | zero => simp [bitsL, packV, Nat.div_eq_of_lt hF]
  | succ m ih =>
    rw [Nat.add_mul, Nat.one_mul] at h
    rw [bitsL_snoc, packV_snoc, ih (by omega), Int.toNat_natCast]
    unfold bitsV
    rw [Nat.add_mul, Nat.one_mul, show T - m * x = T - (m * x + x) + x from by omega, Nat.pow_add, ← Nat.div_div_eq_div_mul]
    generalize F / 2 ^ (T - (m * x + x)) = q
    rw [Nat.mul_comm]
    exact Nat.div_add_mod _ _
/-- What Unpack answers. -/
def unpackR (l : List Int) (m x : Int) : List Int × List Int × Int :=
  if fitsB m x = false then ([], [], 1)
  else if l.length < (sizeN m x).toNat then ([], [], 2)
  else
    let n := (sizeN m x).toNat
    let F := packV (l.take n) 8
    if F % 2 ^ (8 * n - m.toNat * x.toNat) = 0 then (bitsL F (8 * n) x.toNat m.toNat, l.drop n, 0) else ([], [], 2)
end Go.Proofs.YtmejoococajikaaGreat

/- The closure of patched.cut that adds a pair. -/
namespace Go.Proofs.YtmejoococajikaaGreat
open Go.RowKit

/-- The world while numbers are cut: the run, the last place, the two rows. -/
def CutW (S : Nat) (w0 w : World) (base : Int) (lo : List Int) (P : List (Int × Int)) (g p last : Int) : Prop :=
  ∃ lv pv, Blk w S 151 #[.int .i64 base, lv, pv, .int .i64 g, .int .i64 p] ∧ Blk w (S + 1) 3 #[.int .i64 last] ∧
    w.ownsRow (S + 2) 109 1 lv lo.length (lo.map (Value.int .u64)) ∧ w.ownsRow (S + 2) 155 2 pv P.length (cellsP P) ∧ Apart pv lv ∧ Below S w0 w
def bigger (a : Int) (b : Nat) : Int := if a < (b : Int) then (b : Int) else a

theorem cut_push {S : Nat} {w0 w w1 : World} {base g p last : Int} {lo : List Int} {P P2 : List (Int × Int)} {lv pv v : Value} {o : Obj} (_hS : w0.heap.size = S)
    (hr : Blk w S 151 #[.int .i64 base, lv, pv, .int .i64 g, .int .i64 p]) (hla : Blk w (S + 1) 3 #[.int .i64 last])
    (hlo : w.ownsRow (S + 2) 109 1 lv lo.length (lo.map (Value.int .u64))) (hpo : w.ownsRow (S + 2) 155 2 pv P.length (cellsP P)) (hap : Apart pv lv) (hb : Below S w0 w)
    (hown : w1.ownsRow (S + 2) 155 2 v P2.length (cellsP P2)) (hg : (w.alloc o).grownBy w1 pv.ownBlock) (hat : v.ownBlock = pv.ownBlock ∨ v.ownBlock = some (w.alloc o).heap.size) :
    Blk w1 S 151 #[.int .i64 base, lv, pv, .int .i64 g, .int .i64 p] ∧ CutW S w0 (w1.setCell ⟨S, 2, none⟩ v) base lo P2 g p last := by
  have hn : ∀ k, k < S + 2 → some k ≠ pv.ownBlock := fun k hk e => by have := (hpo.lt k e.symm).1; omega
  have h1 := (hr.alloc o).grown hg (hn S (by omega))
  have h2 := (hla.alloc o).grown hg (hn (S + 1) (by omega))
  have hlo1 := hap.kept (own_below hlo ((Below.refl _ _).alloc (Nat.le_refl _) o)) hg
  have hz := hla.lt
  refine ⟨h1, lv, v, h1.set_ 2 v, h2.far (by simp) _, ownsRow_setCell_below hlo1 (by simp) _, ownsRow_setCell_below hown (by simp) _, ?_, ?_⟩
  · exact hap.grown (own_below hlo ((Below.refl _ _).alloc (Nat.le_refl _) o)) (Nat.le_refl _) hat
  · refine Below.setCell ?_ (by simp) _
    exact below_of_grown (hb.alloc (by have := hb.size; omega) o) hg (by simp; omega) (fun k e => by have := (hpo.lt k e).1; omega)

theorem CutW.set_g {S : Nat} {w0 W : World} {base g p last : Int} {lo : List Int} {P : List (Int × Int)} (h : CutW S w0 W base lo P g p last) (x : Int) : CutW S w0 (W.setCell ⟨S, 3, none⟩ (.int .i64 x)).drew base lo P x p last := by
  obtain ⟨lv, pv, hr, hla, hlo, hpo, hap, hb⟩ := h
  exact ⟨lv, pv, (hr.set_ 3 (.int .i64 x)).drew, (hla.far (p := ⟨S, 3, none⟩) (by simp) _).drew, (ownsRow_setCell_below hlo (by simp) _).drew, (ownsRow_setCell_below hpo (by simp) _).drew, hap, (hb.setCell (p := ⟨S, 3, none⟩) (Nat.le_refl _) _).drew⟩
theorem CutW.set_p {S : Nat} {w0 W : World} {base g p last : Int} {lo : List Int} {P : List (Int × Int)} (h : CutW S w0 W base lo P g p last) (x : Int) : CutW S w0 (W.setCell ⟨S, 4, none⟩ (.int .i64 x)).drew base lo P g x last := by
  obtain ⟨lv, pv, hr, hla, hlo, hpo, hap, hb⟩ := h
  exact ⟨lv, pv, (hr.set_ 4 (.int .i64 x)).drew, (hla.far (p := ⟨S, 4, none⟩) (by simp) _).drew, (ownsRow_setCell_below hlo (by simp) _).drew, (ownsRow_setCell_below hpo (by simp) _).drew, hap, (hb.setCell (p := ⟨S, 4, none⟩) (Nat.le_refl _) _).drew⟩
theorem CutW.set_l {S : Nat} {w0 W : World} {base g p last : Int} {lo : List Int} {P : List (Int × Int)} (h : CutW S w0 W base lo P g p last) (x : Int) : CutW S w0 (W.setCell ⟨S + 1, 0, none⟩ (.int .i64 x)) base lo P g p x := by
  obtain ⟨lv, pv, hr, hla, hlo, hpo, hap, hb⟩ := h
  exact ⟨lv, pv, hr.far (p := ⟨S + 1, 0, none⟩) (by simp) _, hla.set_ 0 (.int .i64 x), ownsRow_setCell_below hlo (by simp) _, ownsRow_setCell_below hpo (by simp) _, hap, hb.setCell (p := ⟨S + 1, 0, none⟩) (by simp) _⟩

set_option maxRecDepth 100000 in
set_option maxHeartbeats 2000000 in
theorem add_any (w0 w : World) (S : Nat) (hS : w0.heap.size = S) (base : Int) (lo : List Int) (P : List (Int × Int)) (g p last : Int) (h : CutW S w0 w base lo P g p last) (gap patch : Int)
    (hg : 0 ≤ gap ∧ gap ≤ 1000) (hp : 0 ≤ patch ∧ patch < 18446744073709551616) (hP : P.length ≤ 100000) (hl : 0 ≤ last ∧ last ≤ 1000000) :
    Calls Tryz.prog 157 #[.int .i64 gap, .int .u64 patch, .pointer (some ⟨S, 0, none⟩), .pointer (some ⟨S + 1, 0, none⟩)] w
      fun e w' => e = .returned (.tuple #[]) ∧ CutW S w0 w' base lo (P ++ [(gap, patch)]) (bigger g (blen gap.toNat)) (bigger p (blen patch.toNat)) (last + gap) := by
  obtain ⟨lv, pv, hr, hla, hlo, hpo, hap, hb⟩ := h
  have c2 : w.cell? ⟨S, 2, none⟩ = some pv := (hr.cell 2).trans rfl
  have HR := Lib.hid hr; have HLA := Lib.hid hla; have HLO := Lib.hid hlo; have HPO := Lib.hid hpo; have HAP := Lib.hid hap; have HB := Lib.hid hb
  have hlt := hr.lt; have hlt2 := hla.lt
  clear hr hla hlo hpo hap hb
  have hwr : IntKind.u64.wrap gap = gap := by rw [IntKind.wrap_u64]; omega
  obtain ⟨hg1, hg2⟩ := hg
  obtain ⟨hp1, hp2⟩ := hp
  go_enter Tryz.func157, Tryz.ntmps157
  go_wp2_with (at_builtin; refine wpList_pairx _ rfl _ _ rfl (S + 2) pv P.length P rfl (own_below HPO.out ((Below.refl _ _).alloc (Nat.le_refl _) _)) _ 1 1 [_] rfl (Rp.one_at rfl) (by omega) (by simp; omega) ?_; intro G c w1 hown hgrow hcap hat; have hm := cut_push hS HR.out HLA.out HLO.out HPO.out HAP.out HB.out (P2 := P ++ [(gap, patch)]) (by rw [List.length_append]; exact hown) hgrow hat; obtain ⟨hk1, hm⟩ := hm; have f2 := hk1.frozen 2; have d2 : w1.cell? ⟨S, 2, none⟩ = some pv := (hk1.cell 2).trans rfl; have HM := Lib.hid hm; clear hm hk1 hown hgrow hat)
  generalize w1.setCell ⟨S, 2, none⟩ (.slice G (P.length + 1) c) = W at *
  obtain ⟨lv, pv, hr, hla, hlo, hpo, hap, hb⟩ := HM.out
  have c3 : W.cell? ⟨S, 3, none⟩ = some (.int .i64 g) := (hr.cell 3).trans rfl
  have g3 := hr.frozen 3
  have HR := Lib.hid hr; have HLA := Lib.hid hla; have HLO := Lib.hid hlo; have HPO := Lib.hid hpo; have HAP := Lib.hid hap; have HB := Lib.hid hb
  clear hr hla hlo hpo hap hb HM f2 d2 c2
  have HM := Lib.hid (show CutW S w0 W base lo (P ++ [(gap, patch)]) g p last from ⟨lv, pv, HR.out, HLA.out, HLO.out, HPO.out, HAP.out, HB.out⟩)
  clear HR HLA HLO HPO HB HAP
  have hG1 : (if g < ↑(blen gap.toNat) then ↑(blen gap.toNat) else g) = bigger g (blen gap.toNat) := rfl
  have hG2 : (if p < ↑(blen patch.toNat) then ↑(blen patch.toNat) else p) = bigger p (blen patch.toNat) := rfl
  have HG1 := Lib.hid hG1; have HG2 := Lib.hid hG2; clear hG1 hG2
  go_region_with (go_at_call 149; refine (Bits_any _ _ (by omega) (by omega)).mono ?_; rintro e w' ⟨rfl, rfl⟩)
  all_goals
    rw [HG1.out]
    have hm := CutW.set_g HM.out (bigger g (blen gap.toNat))
    obtain ⟨gb, hgb⟩ : ∃ gb, bigger g (blen gap.toNat) = gb := ⟨_, rfl⟩
    rw [hgb] at hm ⊢
    have HGB := Lib.hid hgb; clear hgb
    have HM2 := Lib.hid hm
    generalize (W.setCell ⟨S, 3, none⟩ (.int .i64 gb)).drew = W2 at *
    clear HM hm c3 g3 HG1
    obtain ⟨lv2, pv2, hr, _, _, _, _, _⟩ := HM2.out
    have c4 : W2.cell? ⟨S, 4, none⟩ = some (.int .i64 p) := (hr.cell 4).trans rfl
    have g4 := hr.frozen 4
    clear hr
    go_wp2_with fail
    go_region_with (go_at_call 149; refine (Bits_any _ _ (by omega) (by omega)).mono ?_; rintro e w' ⟨rfl, rfl⟩)
    all_goals
      rw [HG2.out]
      have hm := CutW.set_p HM2.out (bigger p (blen patch.toNat))
      obtain ⟨pb, hpb⟩ : ∃ gb, bigger p (blen patch.toNat) = gb := ⟨_, rfl⟩
      rw [hpb] at hm ⊢
      have HPB := Lib.hid hpb; clear hpb
      have HM3 := Lib.hid hm
      generalize (W2.setCell ⟨S, 4, none⟩ (.int .i64 pb)).drew = W3 at *
      clear HM2 hm c4 g4 HG2
      obtain ⟨lv3, pv3, _, hla, _, _, _, _⟩ := HM3.out
      have c5 : W3.cell? ⟨S + 1, 0, none⟩ = some (.int .i64 last) := (hla.cell 0).trans rfl
      have g5 := hla.frozen 0
      clear hla
      go_wp2_with fail
      go_end0
      rw [HGB.out, HPB.out]
      exact ⟨rfl, CutW.set_l HM3.out _⟩
end Go.Proofs.YtmejoococajikaaGreat

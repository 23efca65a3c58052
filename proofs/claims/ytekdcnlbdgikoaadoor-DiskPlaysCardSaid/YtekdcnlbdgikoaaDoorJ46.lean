/- Joined texts: LawDk5. Each has its own head line. No condition beyond those that its theorems state. -/
import Derived.Test.YtekdcnlbdgikoaaDoorJ28
import Derived.Test.YtekdcnlbdgikoaaDoorJ29
import Derived.Test.YtekdcnlbdgikoaaDoorJ38
import Derived.Test.YtekdcnlbdgikoaaDoorJ44
import Derived.Test.YtekdcnlbdgikoaaDoorJ45
set_option linter.unusedVariables false

/- A call of both: the disk and the reference. -/
namespace Go.Proofs.YtekdcnlbdgikoaaDoor
open Go.RowKit

/-- Both hold the same files. -/
structure Two (w : World) (base d B y : Nat) (q lf lf2 : Int) (A : Option Addr) (c : Nat) (L K : List Fl) (M M2 : List Mf) : Prop where
  dk : Dk w d B q lf L
  rk : Rk w base y q lf2 A c K
  hL : absF L = M
  hK : absF K = M2
  hd : base ≤ d
  hB : base ≤ B
section
variable {w w' : World} {base d B y c : Nat} {q lf lf2 lf' : Int} {A : Option Addr} {L K : List Fl} {M M2 M' : List Mf}
theorem Two.below (h : Two w base d B y q lf lf2 A c L K M M2) (hb : Below w.heap.size w w') : Two w' base d B y q lf lf2 A c L K M M2 :=
  ⟨h.dk.below hb, h.rk.below hb, h.hL, h.hK, h.hd, h.hB⟩
theorem Two.da (h : Two w base d B y q lf lf2 A c L K M M2) : Da w d B q lf M := ⟨L, h.hL, h.dk⟩
/-- Behind a call of the disk. -/
theorem Two.onD (h : Two w base d B y q lf lf2 A c L K M M2) (ha : Da w' d B q lf' M') (ht : Turn d B w w') : (∃ L', Two w' base d B y q lf' lf2 A c L' K M' M2) ∧ Below base w w' := by
  obtain ⟨L', hL', hd'⟩ := ha
  exact ⟨⟨L', hd', h.rk.turn h.dk ht, hL', h.hK, h.hd, h.hB⟩, Turn.below (Below.refl base w) ht h.hd h.hB h.rk.hs⟩
/-- Behind a call of the reference. -/
theorem Two.onY {v : Value} {e : Ending} (h : Two w base d B y q lf lf2 A c L K M M2) (ho : ∃ L', absF L' = M' ∧ RkOut w base y q A c K lf' L' v e w') : e = .returned v ∧ (∃ A' c' K', Two w' base d B y q lf lf' A' c' L K' M M') ∧ Below base w w' := by
  obtain ⟨L', hL', he, ⟨A', c', hr⟩, ht⟩ := ho
  exact ⟨he, ⟨A', c', L', h.dk.turnR h.rk ht, hr, h.hL, hL', h.hd, h.hB⟩, TurnR.below (Below.refl base w) ht h.rk.hy (fun k hk => (h.rk.own.lt k hk).1) h.rk.hs⟩
/-- A block that is new stays behind a call of the disk, and of the reference. -/
theorem Two.keepD {w0 : World} (h0 : Two w0 base d B y q lf lf2 A c L K M M2) (ht : Turn d B w w') {o : Obj} {k : Nat} (hk : w0.heap.size ≤ k) (hb : w.heap[k]? = some o) : w'.heap[k]? = some o := by
  have h1 := h0.dk.lt
  have h2 := h0.dk.ltB
  refine (ht.block k ?_ (by omega) (by omega)).trans hb
  rcases Nat.lt_or_ge k w.heap.size with h | h
  · exact h
  · rw [Array.getElem?_eq_none h] at hb; cases hb
theorem Rk.keepY {w0 : World} {L0 : List Fl} {lf0 : Int} (h0 : Rk w0 base y q lf0 A c L0) (ht : TurnR y (Value.slice A L0.length c).ownBlock (L0.length * 3) w w') {o : Obj} {k : Nat} (hk : w0.heap.size ≤ k) (hb : w.heap[k]? = some o) : w'.heap[k]? = some o := by
  have h1 := h0.lt
  refine (ht.block k ?_ (by omega) (fun e => ?_)).trans hb
  · rcases Nat.lt_or_ge k w.heap.size with h | h
    · exact h
    · rw [Array.getElem?_eq_none h] at hb; cases hb
  · have := (h0.own.lt k e.symm).2
    omega
end

/-- What a call does. -/
def doesLf (lf : Int) (o : Opv) : Int :=
  if kindN o.k 11 = 8 then -1 else if kindN o.k 11 = 9 then lf else if kindN o.k 11 = 10 then fuseN (o.n.tmod 20) else burnL lf
def doesM (q lf : Int) (M : List Mf) (o : Opv) : List Mf :=
  if kindN o.k 11 = 0 ∨ kindN o.k 11 = 1 then (createM lf M o.p).2 else if kindN o.k 11 = 2 ∨ kindN o.k 11 = 3 then (appendM q lf M o.p (o.b.take 300)).2 else if kindN o.k 11 = 4 then (syncM lf M o.p).2
  else if kindN o.k 11 = 5 ∨ kindN o.k 11 = 6 then (moveM lf M o.p o.q).2 else if kindN o.k 11 = 7 then (deleteM lf M o.p).2 else if kindN o.k 11 = 8 then crashM o.n M else if kindN o.k 11 = 9 then corruptM M o.p o.n o.m else M
/-- Behind a call both hold the same files again. -/
def DoesOut (w : World) (base d B y : Nat) (q lf : Int) (M : List Mf) (e : Ending) (w' : World) : Prop :=
  e = .returned (.bool true) ∧ (∃ A c L K, Two w' base d B y q lf lf A c L K M M) ∧ Below base w w'

set_option maxRecDepth 100000 in
set_option maxHeartbeats 4000000 in
theorem doesA_any (w : World) (base d B y : Nat) (q lf : Int) (A : Option Addr) (c : Nat) (L K : List Fl) (M : List Mf) (h : Two w base d B y q lf lf A c L K M M) (h0 : 0 < base) (m : Int) (hm : w.cell? ⟨0, 0, none⟩ = some (.int .i64 m))
    (hq : is64 q) (hl : is64 lf) (hs : SmallM M) (hu : usedM M ≤ 900000) (x : Opv) (hx : OpOk w x) (hkk : kindN x.k 11 = 0 ∨ kindN x.k 11 = 1 ∨ kindN x.k 11 = 4) :
    Calls Tryd.prog 20 #[.pointer (some ⟨d, 0, none⟩), .pointer (some ⟨y, 0, none⟩), .agg #[.int .i64 x.k, .int .i64 x.n, .int .i64 x.m, .string x.p, .string x.q, .slice x.A x.len x.cap]] w
      (DoesOut w base d B y q (doesLf lf x) (doesM q lf M x)) := by
  have HX := Lib.hid hx
  have H := Lib.hid h
  have HRB := Lib.hid hx.2.2.1
  have hrb := reachBytes_lt
  have hr1 : x.p.size ≤ maxLen := by have := hx.2.1.1; unfold maxLen; omega
  have hr2 : x.q.size ≤ maxLen := by have := hx.2.1.2; unfold maxLen; omega
  have hbi := hx.2.2.2.2.1
  have hDl : L.length = M.length := by rw [← h.hL, abs_len]
  have hKl : K.length = M.length := by rw [← h.hK, abs_len]
  have hDu : usedF L = usedM M := by rw [← h.hL]; exact abs_used h.dk.row
  have hKu : usedF K = usedM M := by rw [← h.hK]; exact abs_used h.rk.row
  have hs4 := hs.1
  have HP60 : Hid (∀ f ∈ K, f.p.size ≤ 60) := Lib.hid fun f hf => hs.2 f.abs (by rw [← h.hK]; exact List.mem_map_of_mem hf)
  have hdne : d ≠ 0 := by have := h.hd; omega
  have hBne : B ≠ 0 := by have := h.hB; omega
  have hl2 : -9223372036854775808 ≤ lf ∧ lf < 9223372036854775808 := hl
  have hq2 : -9223372036854775808 ≤ q ∧ q < 9223372036854775808 := hq
  obtain ⟨ob, hob⟩ : ∃ ob, ob = Obj.cells #[.int .i64 x.k, .int .i64 x.n, .int .i64 x.m, .string x.p, .string x.q, .slice x.A x.len x.cap] 43 := ⟨_, rfl⟩
  obtain ⟨wa, hwa⟩ : ∃ wa, wa = w.alloc ob := ⟨_, rfl⟩
  have hbz : base ≤ w.heap.size := h.rk.hs
  have hba : Below w.heap.size w wa := hwa ▸ (Below.refl w.heap.size w).alloc (Nat.le_refl _) ob
  have H2 := Lib.hid (h.below hba)
  have BWC := Lib.hid hba
  have HBA := Lib.hid (show Below base w wa from hwa ▸ (Below.refl base w).alloc hbz ob)
  have HNEW : Hid (wa.heap[w.heap.size]? = some ob) := Lib.hid (hwa ▸ IdiomRange_new w ob)
  have hnl : w.heap.size < wa.heap.size := by rw [hwa]; simp
  have HXA := Lib.hid (hx.below hba)
  have HCELL : Hid (∀ v : World, v.heap[w.heap.size]? = some ob → v.cell? ⟨w.heap.size, 1, none⟩ = some (.int .i64 x.n) ∧ v.cell? ⟨w.heap.size, 2, none⟩ = some (.int .i64 x.m) ∧ v.cell? ⟨w.heap.size, 3, none⟩ = some (.string x.p) ∧ v.cell? ⟨w.heap.size, 4, none⟩ = some (.string x.q)) := Lib.hid fun v hv => by
    rw [hob] at hv
    exact ⟨by rw [cell_of_blk hv]; rfl, by rw [cell_of_blk hv]; rfl, by rw [cell_of_blk hv]; rfl, by rw [cell_of_blk hv]; rfl⟩
  have hnew := HNEW.out
  rw [hob] at hnew
  have g0 : wa.cell? ⟨w.heap.size, 0, none⟩ = some (.int .i64 x.k) := by rw [cell_of_blk hnew]; rfl
  have g1 : wa.cell? ⟨w.heap.size, 1, none⟩ = some (.int .i64 x.n) := by rw [cell_of_blk hnew]; rfl
  have g2 : wa.cell? ⟨w.heap.size, 2, none⟩ = some (.int .i64 x.m) := by rw [cell_of_blk hnew]; rfl
  have g3 : wa.cell? ⟨w.heap.size, 3, none⟩ = some (.string x.p) := by rw [cell_of_blk hnew]; rfl
  have g4 : wa.cell? ⟨w.heap.size, 4, none⟩ = some (.string x.q) := by rw [cell_of_blk hnew]; rfl
  have g5 : wa.cell? ⟨w.heap.size, 5, none⟩ = some (.slice x.A x.len x.cap) := by rw [cell_of_blk hnew]; rfl
  have HM := Lib.hid (show wa.cell? ⟨0, 0, none⟩ = some (.int .i64 m) from (HBA.out.cell (p := ⟨0, 0, none⟩) h0).trans hm)
  clear h hx hba hnew hm
  go_enter Tryd.func20, Tryd.ntmps20
  go_upto_region 1 with fail
  rw [← hob, ← hwa]
  clear hwa
  generalize Value.agg #[.int .i64 x.k, .int .i64 x.n, .int .i64 x.m, .string x.p, .string x.q, .slice x.A x.len x.cap] = ag
  go_upto_if 15 with fail
  go_cut [7] (fun v wx => ∃ (A1 : Option Addr) (m1 c1 : Nat), v = .slice A1 m1 c1 ∧ m1 ≤ 300 ∧ Hid (Ri w .u8 A1 m1 (x.b.take 300)) ∧ wx = wa)
  case first =>
    rcases cut_ri3 HRB.out 300 with ⟨h1, ⟨b2, o2, hA2⟩, h2⟩ | ⟨h1, h2⟩
    · have H2 := Lib.hid h2
      have hA3 := Lib.hid hA2
      have t3 : decide ((300 : Int) < x.len) = true := decide_eq_true (by omega)
      have hc3 : 300 ≤ x.cap := by omega
      rw [hA2]
      clear h2 hA2
      go_wp2_with fail
      go_meet
      exact ⟨_, _, _, rfl, by omega, Lib.hid (hA3.out ▸ H2.out), rfl⟩
    · have H2 := Lib.hid h2
      have t3 : decide ((300 : Int) < x.len) = false := decide_eq_false (by omega)
      clear h2
      go_wp2_with fail
      go_meet
      exact ⟨_, _, _, rfl, h1, H2, rfl⟩
  case rest =>
  obtain ⟨A1, n1, ca1, rfl, hn1, hA1, hw⟩ := hcut
  subst hw
  obtain ⟨k, hk⟩ : ∃ k, k = kindN x.k 11 := ⟨_, rfl⟩
  rw [← hk] at hkk
  have HD : Hid (doesLf lf x = if k = 8 then -1 else if k = 9 then lf else if k = 10 then fuseN (x.n.tmod 20) else burnL lf) := by rw [hk]; exact Lib.hid rfl
  have HE : Hid (doesM q lf M x = if k = 0 ∨ k = 1 then (createM lf M x.p).2 else if k = 2 ∨ k = 3 then (appendM q lf M x.p (x.b.take 300)).2 else if k = 4 then (syncM lf M x.p).2
    else if k = 5 ∨ k = 6 then (moveM lf M x.p x.q).2 else if k = 7 then (deleteM lf M x.p).2 else if k = 8 then crashM x.n M else if k = 9 then corruptM M x.p x.n x.m else M) := by rw [hk]; exact Lib.hid rfl
  have HK := Lib.hid hk
  clear hk
  go_wp2_with fail
  refine (kind_any _ x.k 11 HX.out.1.1 (by omega)).mono ?_; rintro e w4 ⟨rfl, hw4⟩
  rw [hw4]
  clear hw4 w4
  rw [← HK.out]
  rcases hkk with rfl | rfl | rfl
  · obtain ⟨er, M2, hc⟩ : ∃ er M2, createM lf M x.p = (er, M2) := ⟨_, _, rfl⟩
    have HC := Lib.hid hc
    have HEQ : Hid (doesM q lf M x = M2) := Lib.hid (by rw [HE.out]; simp [hc])
    have HFQ : Hid (doesLf lf x = burnL lf) := Lib.hid (by rw [HD.out]; simp)
    have x0 : wc.drew.cell? ⟨w.heap.size, 3, none⟩ = some (.string x.p) := g3
    have H3 := Lib.hid (H2.out.below (Below.refl wc.heap.size wc).drew)
    have HM3 : Hid (wc.drew.cell? ⟨0, 0, none⟩ = some (.int .i64 m)) := Lib.hid HM.out
    clear hc
    go_wp2_with fail
    go_region_held3 (fun w' => w'.cell? ⟨w.heap.size, 3, none⟩ = some (.string x.p)) (first | (with_reducible exact x0) | (with_reducible exact x1) | (with_reducible exact x2))
      (first
        | (go_at_call 10; refine (CreateM_any wc.drew d B q lf M H3.out.da hl2 hdne hBne x.p hr1 m HM3.out er M2 HC.out).mono ?_; rintro e w3 ⟨rfl, hd3, ht3⟩
           have HT3 := Lib.hid (H3.out.onD hd3 ht3)
           have hn3 := Two.keepD H.out ht3 (Nat.le_refl _) (o := ob) HNEW.out
           have x1 : w3.cell? ⟨w.heap.size, 3, none⟩ = some (.string x.p) := (HCELL.out w3 hn3).2.2.1
           have HN3 := Lib.hid hn3)
        | (go_at_call 35; obtain ⟨L3, h3⟩ := HT3.out.1; refine (rCreate_any w3 base y q lf A c K h3.rk hl2 (by omega) x.p hr1 er M2 (by rw [h3.hK]; exact HC.out)).mono ?_; rintro e w4 ho4
           have hk4 := h3.onY ho4
           have hn4 : w4.heap[w.heap.size]? = some ob := by obtain ⟨_, _, _, _, ht4⟩ := ho4; exact H.out.rk.keepY ht4 (Nat.le_refl _) HN3.out
           obtain ⟨rfl, hk4⟩ := hk4
           have x2 : w4.cell? ⟨w.heap.size, 3, none⟩ = some (.string x.p) := (HCELL.out w4 hn4).2.2.1))
    go_wp2_with fail
    go_ret
    obtain ⟨⟨A4, c4, K4, h4⟩, hb4⟩ := hk4
    exact ⟨ret_bool (by simp), by rw [HEQ.out, HFQ.out]; exact ⟨A4, c4, L3, K4, h4⟩, ((HBA.out.trans (Below.refl _ _).drew).trans HT3.out.2).trans hb4⟩
  · obtain ⟨er, M2, hc⟩ : ∃ er M2, createM lf M x.p = (er, M2) := ⟨_, _, rfl⟩
    have HC := Lib.hid hc
    have HEQ : Hid (doesM q lf M x = M2) := Lib.hid (by rw [HE.out]; simp [hc])
    have HFQ : Hid (doesLf lf x = burnL lf) := Lib.hid (by rw [HD.out]; simp)
    have x0 : wc.drew.cell? ⟨w.heap.size, 3, none⟩ = some (.string x.p) := g3
    have H3 := Lib.hid (H2.out.below (Below.refl wc.heap.size wc).drew)
    have HM3 : Hid (wc.drew.cell? ⟨0, 0, none⟩ = some (.int .i64 m)) := Lib.hid HM.out
    clear hc
    go_wp2_with fail
    go_region_held3 (fun w' => w'.cell? ⟨w.heap.size, 3, none⟩ = some (.string x.p)) (first | (with_reducible exact x0) | (with_reducible exact x1) | (with_reducible exact x2))
      (first
        | (go_at_call 10; refine (CreateM_any wc.drew d B q lf M H3.out.da hl2 hdne hBne x.p hr1 m HM3.out er M2 HC.out).mono ?_; rintro e w3 ⟨rfl, hd3, ht3⟩
           have HT3 := Lib.hid (H3.out.onD hd3 ht3)
           have hn3 := Two.keepD H.out ht3 (Nat.le_refl _) (o := ob) HNEW.out
           have x1 : w3.cell? ⟨w.heap.size, 3, none⟩ = some (.string x.p) := (HCELL.out w3 hn3).2.2.1
           have HN3 := Lib.hid hn3)
        | (go_at_call 35; obtain ⟨L3, h3⟩ := HT3.out.1; refine (rCreate_any w3 base y q lf A c K h3.rk hl2 (by omega) x.p hr1 er M2 (by rw [h3.hK]; exact HC.out)).mono ?_; rintro e w4 ho4
           have hk4 := h3.onY ho4
           have hn4 : w4.heap[w.heap.size]? = some ob := by obtain ⟨_, _, _, _, ht4⟩ := ho4; exact H.out.rk.keepY ht4 (Nat.le_refl _) HN3.out
           obtain ⟨rfl, hk4⟩ := hk4
           have x2 : w4.cell? ⟨w.heap.size, 3, none⟩ = some (.string x.p) := (HCELL.out w4 hn4).2.2.1))
    go_wp2_with fail
    go_ret
    obtain ⟨⟨A4, c4, K4, h4⟩, hb4⟩ := hk4
    exact ⟨ret_bool (by simp), by rw [HEQ.out, HFQ.out]; exact ⟨A4, c4, L3, K4, h4⟩, ((HBA.out.trans (Below.refl _ _).drew).trans HT3.out.2).trans hb4⟩
  · obtain ⟨er, M2, hc⟩ : ∃ er M2, syncM lf M x.p = (er, M2) := ⟨_, _, rfl⟩
    have HC := Lib.hid hc
    have HEQ : Hid (doesM q lf M x = M2) := Lib.hid (by rw [HE.out]; simp [hc])
    have HFQ : Hid (doesLf lf x = burnL lf) := Lib.hid (by rw [HD.out]; simp)
    have x0 : wc.drew.cell? ⟨w.heap.size, 3, none⟩ = some (.string x.p) := g3
    have H3 := Lib.hid (H2.out.below (Below.refl wc.heap.size wc).drew)
    have HM3 : Hid (wc.drew.cell? ⟨0, 0, none⟩ = some (.int .i64 m)) := Lib.hid HM.out
    clear hc
    go_wp2_with fail
    go_region_held3 (fun w' => w'.cell? ⟨w.heap.size, 3, none⟩ = some (.string x.p)) (first | (with_reducible exact x0) | (with_reducible exact x1) | (with_reducible exact x2))
      (first
        | (go_at_call 12; refine (Sync_any wc.drew d B q lf M H3.out.da hl2 x.p hr1 (by omega) er M2 HC.out).mono ?_; rintro e w3 ⟨rfl, hd3, ht3⟩
           have HT3 := Lib.hid (H3.out.onD hd3 ht3)
           have hn3 := Two.keepD H.out ht3 (Nat.le_refl _) (o := ob) HNEW.out
           have x1 : w3.cell? ⟨w.heap.size, 3, none⟩ = some (.string x.p) := (HCELL.out w3 hn3).2.2.1
           have HN3 := Lib.hid hn3)
        | (go_at_call 37; obtain ⟨L3, h3⟩ := HT3.out.1; refine (rSync_any w3 base y q lf A c K h3.rk hl2 (by omega) x.p er M2 (by rw [h3.hK]; exact HC.out)).mono ?_; rintro e w4 ho4
           have hk4 := h3.onY ho4
           have hn4 : w4.heap[w.heap.size]? = some ob := by obtain ⟨_, _, _, _, ht4⟩ := ho4; exact H.out.rk.keepY ht4 (Nat.le_refl _) HN3.out
           obtain ⟨rfl, hk4⟩ := hk4
           have x2 : w4.cell? ⟨w.heap.size, 3, none⟩ = some (.string x.p) := (HCELL.out w4 hn4).2.2.1))
    go_wp2_with fail
    go_ret
    obtain ⟨⟨A4, c4, K4, h4⟩, hb4⟩ := hk4
    exact ⟨ret_bool (by simp), by rw [HEQ.out, HFQ.out]; exact ⟨A4, c4, L3, K4, h4⟩, ((HBA.out.trans (Below.refl _ _).drew).trans HT3.out.2).trans hb4⟩
set_option maxRecDepth 100000 in
set_option maxHeartbeats 4000000 in
theorem doesB_any (w : World) (base d B y : Nat) (q lf : Int) (A : Option Addr) (c : Nat) (L K : List Fl) (M : List Mf) (h : Two w base d B y q lf lf A c L K M M) (h0 : 0 < base) (m : Int) (hm : w.cell? ⟨0, 0, none⟩ = some (.int .i64 m))
    (hq : is64 q) (hl : is64 lf) (hs : SmallM M) (hu : usedM M ≤ 900000) (x : Opv) (hx : OpOk w x) (hkk : kindN x.k 11 = 5 ∨ kindN x.k 11 = 6 ∨ kindN x.k 11 = 7) :
    Calls Tryd.prog 20 #[.pointer (some ⟨d, 0, none⟩), .pointer (some ⟨y, 0, none⟩), .agg #[.int .i64 x.k, .int .i64 x.n, .int .i64 x.m, .string x.p, .string x.q, .slice x.A x.len x.cap]] w
      (DoesOut w base d B y q (doesLf lf x) (doesM q lf M x)) := by
  have HX := Lib.hid hx
  have H := Lib.hid h
  have HRB := Lib.hid hx.2.2.1
  have hrb := reachBytes_lt
  have hr1 : x.p.size ≤ maxLen := by have := hx.2.1.1; unfold maxLen; omega
  have hr2 : x.q.size ≤ maxLen := by have := hx.2.1.2; unfold maxLen; omega
  have hbi := hx.2.2.2.2.1
  have hDl : L.length = M.length := by rw [← h.hL, abs_len]
  have hKl : K.length = M.length := by rw [← h.hK, abs_len]
  have hDu : usedF L = usedM M := by rw [← h.hL]; exact abs_used h.dk.row
  have hKu : usedF K = usedM M := by rw [← h.hK]; exact abs_used h.rk.row
  have hs4 := hs.1
  have HP60 : Hid (∀ f ∈ K, f.p.size ≤ 60) := Lib.hid fun f hf => hs.2 f.abs (by rw [← h.hK]; exact List.mem_map_of_mem hf)
  have hdne : d ≠ 0 := by have := h.hd; omega
  have hBne : B ≠ 0 := by have := h.hB; omega
  have hl2 : -9223372036854775808 ≤ lf ∧ lf < 9223372036854775808 := hl
  have hq2 : -9223372036854775808 ≤ q ∧ q < 9223372036854775808 := hq
  obtain ⟨ob, hob⟩ : ∃ ob, ob = Obj.cells #[.int .i64 x.k, .int .i64 x.n, .int .i64 x.m, .string x.p, .string x.q, .slice x.A x.len x.cap] 43 := ⟨_, rfl⟩
  obtain ⟨wa, hwa⟩ : ∃ wa, wa = w.alloc ob := ⟨_, rfl⟩
  have hbz : base ≤ w.heap.size := h.rk.hs
  have hba : Below w.heap.size w wa := hwa ▸ (Below.refl w.heap.size w).alloc (Nat.le_refl _) ob
  have H2 := Lib.hid (h.below hba)
  have BWC := Lib.hid hba
  have HBA := Lib.hid (show Below base w wa from hwa ▸ (Below.refl base w).alloc hbz ob)
  have HNEW : Hid (wa.heap[w.heap.size]? = some ob) := Lib.hid (hwa ▸ IdiomRange_new w ob)
  have hnl : w.heap.size < wa.heap.size := by rw [hwa]; simp
  have HXA := Lib.hid (hx.below hba)
  have HCELL : Hid (∀ v : World, v.heap[w.heap.size]? = some ob → v.cell? ⟨w.heap.size, 1, none⟩ = some (.int .i64 x.n) ∧ v.cell? ⟨w.heap.size, 2, none⟩ = some (.int .i64 x.m) ∧ v.cell? ⟨w.heap.size, 3, none⟩ = some (.string x.p) ∧ v.cell? ⟨w.heap.size, 4, none⟩ = some (.string x.q)) := Lib.hid fun v hv => by
    rw [hob] at hv
    exact ⟨by rw [cell_of_blk hv]; rfl, by rw [cell_of_blk hv]; rfl, by rw [cell_of_blk hv]; rfl, by rw [cell_of_blk hv]; rfl⟩
  have hnew := HNEW.out
  rw [hob] at hnew
  have g0 : wa.cell? ⟨w.heap.size, 0, none⟩ = some (.int .i64 x.k) := by rw [cell_of_blk hnew]; rfl
  have g1 : wa.cell? ⟨w.heap.size, 1, none⟩ = some (.int .i64 x.n) := by rw [cell_of_blk hnew]; rfl
  have g2 : wa.cell? ⟨w.heap.size, 2, none⟩ = some (.int .i64 x.m) := by rw [cell_of_blk hnew]; rfl
  have g3 : wa.cell? ⟨w.heap.size, 3, none⟩ = some (.string x.p) := by rw [cell_of_blk hnew]; rfl
  have g4 : wa.cell? ⟨w.heap.size, 4, none⟩ = some (.string x.q) := by rw [cell_of_blk hnew]; rfl
  have g5 : wa.cell? ⟨w.heap.size, 5, none⟩ = some (.slice x.A x.len x.cap) := by rw [cell_of_blk hnew]; rfl
  have HM := Lib.hid (show wa.cell? ⟨0, 0, none⟩ = some (.int .i64 m) from (HBA.out.cell (p := ⟨0, 0, none⟩) h0).trans hm)
  clear h hx hba hnew hm
  go_enter Tryd.func20, Tryd.ntmps20
  go_upto_region 1 with fail
  rw [← hob, ← hwa]
  clear hwa
  generalize Value.agg #[.int .i64 x.k, .int .i64 x.n, .int .i64 x.m, .string x.p, .string x.q, .slice x.A x.len x.cap] = ag
  go_upto_if 15 with fail
  go_cut [7] (fun v wx => ∃ (A1 : Option Addr) (m1 c1 : Nat), v = .slice A1 m1 c1 ∧ m1 ≤ 300 ∧ Hid (Ri w .u8 A1 m1 (x.b.take 300)) ∧ wx = wa)
  case first =>
    rcases cut_ri3 HRB.out 300 with ⟨h1, ⟨b2, o2, hA2⟩, h2⟩ | ⟨h1, h2⟩
    · have H2 := Lib.hid h2
      have hA3 := Lib.hid hA2
      have t3 : decide ((300 : Int) < x.len) = true := decide_eq_true (by omega)
      have hc3 : 300 ≤ x.cap := by omega
      rw [hA2]
      clear h2 hA2
      go_wp2_with fail
      go_meet
      exact ⟨_, _, _, rfl, by omega, Lib.hid (hA3.out ▸ H2.out), rfl⟩
    · have H2 := Lib.hid h2
      have t3 : decide ((300 : Int) < x.len) = false := decide_eq_false (by omega)
      clear h2
      go_wp2_with fail
      go_meet
      exact ⟨_, _, _, rfl, h1, H2, rfl⟩
  case rest =>
  obtain ⟨A1, n1, ca1, rfl, hn1, hA1, hw⟩ := hcut
  subst hw
  obtain ⟨k, hk⟩ : ∃ k, k = kindN x.k 11 := ⟨_, rfl⟩
  rw [← hk] at hkk
  have HD : Hid (doesLf lf x = if k = 8 then -1 else if k = 9 then lf else if k = 10 then fuseN (x.n.tmod 20) else burnL lf) := by rw [hk]; exact Lib.hid rfl
  have HE : Hid (doesM q lf M x = if k = 0 ∨ k = 1 then (createM lf M x.p).2 else if k = 2 ∨ k = 3 then (appendM q lf M x.p (x.b.take 300)).2 else if k = 4 then (syncM lf M x.p).2
    else if k = 5 ∨ k = 6 then (moveM lf M x.p x.q).2 else if k = 7 then (deleteM lf M x.p).2 else if k = 8 then crashM x.n M else if k = 9 then corruptM M x.p x.n x.m else M) := by rw [hk]; exact Lib.hid rfl
  have HK := Lib.hid hk
  clear hk
  go_wp2_with fail
  refine (kind_any _ x.k 11 HX.out.1.1 (by omega)).mono ?_; rintro e w4 ⟨rfl, hw4⟩
  rw [hw4]
  clear hw4 w4
  rw [← HK.out]
  rcases hkk with rfl | rfl | rfl
  · obtain ⟨er, M2, hc⟩ : ∃ er M2, moveM lf M x.p x.q = (er, M2) := ⟨_, _, rfl⟩
    have HC := Lib.hid hc
    have HEQ : Hid (doesM q lf M x = M2) := Lib.hid (by rw [HE.out]; simp [hc])
    have HFQ : Hid (doesLf lf x = burnL lf) := Lib.hid (by rw [HD.out]; simp)
    obtain ⟨x0, z0⟩ : wc.drew.cell? ⟨w.heap.size, 3, none⟩ = some (.string x.p) ∧ wc.drew.cell? ⟨w.heap.size, 4, none⟩ = some (.string x.q) := ⟨g3, g4⟩
    have H3 := Lib.hid (H2.out.below (Below.refl wc.heap.size wc).drew)
    have HM3 : Hid (wc.drew.cell? ⟨0, 0, none⟩ = some (.int .i64 m)) := Lib.hid HM.out
    clear hc
    go_wp2_with fail
    go_region_held3 (fun w' => w'.cell? ⟨w.heap.size, 3, none⟩ = some (.string x.p) ∧ w'.cell? ⟨w.heap.size, 4, none⟩ = some (.string x.q)) (first | (with_reducible exact ⟨x0, z0⟩) | (with_reducible exact ⟨x1, z1⟩) | (with_reducible exact ⟨x2, z2⟩))
      (first
        | (go_at_call 15; refine (Move_any wc.drew d B q lf M H3.out.da hl2 hdne hBne x.p x.q (by omega) hs.2 m HM3.out er M2 HC.out).mono ?_; rintro e w3 ⟨rfl, hd3, ht3⟩
           have HT3 := Lib.hid (H3.out.onD hd3 ht3)
           have hn3 := Two.keepD H.out ht3 (Nat.le_refl _) (o := ob) HNEW.out
           obtain ⟨x1, z1⟩ : w3.cell? ⟨w.heap.size, 3, none⟩ = some (.string x.p) ∧ w3.cell? ⟨w.heap.size, 4, none⟩ = some (.string x.q) := ⟨(HCELL.out w3 hn3).2.2.1, (HCELL.out w3 hn3).2.2.2⟩
           have HN3 := Lib.hid hn3)
        | (go_at_call 38; obtain ⟨L3, h3⟩ := HT3.out.1; refine (rMove_any w3 base y q lf A c K h3.rk hl2 (by omega) HP60.out x.p x.q HX.out.2.1.1 HX.out.2.1.2 er M2 (by rw [h3.hK]; exact HC.out)).mono ?_; rintro e w4 ho4
           have hk4 := h3.onY ho4
           have hn4 : w4.heap[w.heap.size]? = some ob := by obtain ⟨_, _, _, _, ht4⟩ := ho4; exact H.out.rk.keepY ht4 (Nat.le_refl _) HN3.out
           obtain ⟨rfl, hk4⟩ := hk4
           obtain ⟨x2, z2⟩ : w4.cell? ⟨w.heap.size, 3, none⟩ = some (.string x.p) ∧ w4.cell? ⟨w.heap.size, 4, none⟩ = some (.string x.q) := ⟨(HCELL.out w4 hn4).2.2.1, (HCELL.out w4 hn4).2.2.2⟩))
    go_wp2_with fail
    go_ret
    obtain ⟨⟨A4, c4, K4, h4⟩, hb4⟩ := hk4
    exact ⟨ret_bool (by simp), by rw [HEQ.out, HFQ.out]; exact ⟨A4, c4, L3, K4, h4⟩, ((HBA.out.trans (Below.refl _ _).drew).trans HT3.out.2).trans hb4⟩
  · obtain ⟨er, M2, hc⟩ : ∃ er M2, moveM lf M x.p x.q = (er, M2) := ⟨_, _, rfl⟩
    have HC := Lib.hid hc
    have HEQ : Hid (doesM q lf M x = M2) := Lib.hid (by rw [HE.out]; simp [hc])
    have HFQ : Hid (doesLf lf x = burnL lf) := Lib.hid (by rw [HD.out]; simp)
    obtain ⟨x0, z0⟩ : wc.drew.cell? ⟨w.heap.size, 3, none⟩ = some (.string x.p) ∧ wc.drew.cell? ⟨w.heap.size, 4, none⟩ = some (.string x.q) := ⟨g3, g4⟩
    have H3 := Lib.hid (H2.out.below (Below.refl wc.heap.size wc).drew)
    have HM3 : Hid (wc.drew.cell? ⟨0, 0, none⟩ = some (.int .i64 m)) := Lib.hid HM.out
    clear hc
    go_wp2_with fail
    go_region_held3 (fun w' => w'.cell? ⟨w.heap.size, 3, none⟩ = some (.string x.p) ∧ w'.cell? ⟨w.heap.size, 4, none⟩ = some (.string x.q)) (first | (with_reducible exact ⟨x0, z0⟩) | (with_reducible exact ⟨x1, z1⟩) | (with_reducible exact ⟨x2, z2⟩))
      (first
        | (go_at_call 15; refine (Move_any wc.drew d B q lf M H3.out.da hl2 hdne hBne x.p x.q (by omega) hs.2 m HM3.out er M2 HC.out).mono ?_; rintro e w3 ⟨rfl, hd3, ht3⟩
           have HT3 := Lib.hid (H3.out.onD hd3 ht3)
           have hn3 := Two.keepD H.out ht3 (Nat.le_refl _) (o := ob) HNEW.out
           obtain ⟨x1, z1⟩ : w3.cell? ⟨w.heap.size, 3, none⟩ = some (.string x.p) ∧ w3.cell? ⟨w.heap.size, 4, none⟩ = some (.string x.q) := ⟨(HCELL.out w3 hn3).2.2.1, (HCELL.out w3 hn3).2.2.2⟩
           have HN3 := Lib.hid hn3)
        | (go_at_call 38; obtain ⟨L3, h3⟩ := HT3.out.1; refine (rMove_any w3 base y q lf A c K h3.rk hl2 (by omega) HP60.out x.p x.q HX.out.2.1.1 HX.out.2.1.2 er M2 (by rw [h3.hK]; exact HC.out)).mono ?_; rintro e w4 ho4
           have hk4 := h3.onY ho4
           have hn4 : w4.heap[w.heap.size]? = some ob := by obtain ⟨_, _, _, _, ht4⟩ := ho4; exact H.out.rk.keepY ht4 (Nat.le_refl _) HN3.out
           obtain ⟨rfl, hk4⟩ := hk4
           obtain ⟨x2, z2⟩ : w4.cell? ⟨w.heap.size, 3, none⟩ = some (.string x.p) ∧ w4.cell? ⟨w.heap.size, 4, none⟩ = some (.string x.q) := ⟨(HCELL.out w4 hn4).2.2.1, (HCELL.out w4 hn4).2.2.2⟩))
    go_wp2_with fail
    go_ret
    obtain ⟨⟨A4, c4, K4, h4⟩, hb4⟩ := hk4
    exact ⟨ret_bool (by simp), by rw [HEQ.out, HFQ.out]; exact ⟨A4, c4, L3, K4, h4⟩, ((HBA.out.trans (Below.refl _ _).drew).trans HT3.out.2).trans hb4⟩
  · obtain ⟨er, M2, hc⟩ : ∃ er M2, deleteM lf M x.p = (er, M2) := ⟨_, _, rfl⟩
    have HC := Lib.hid hc
    have HEQ : Hid (doesM q lf M x = M2) := Lib.hid (by rw [HE.out]; simp [hc])
    have HFQ : Hid (doesLf lf x = burnL lf) := Lib.hid (by rw [HD.out]; simp)
    have x0 : wc.drew.cell? ⟨w.heap.size, 3, none⟩ = some (.string x.p) := g3
    have H3 := Lib.hid (H2.out.below (Below.refl wc.heap.size wc).drew)
    have HM3 : Hid (wc.drew.cell? ⟨0, 0, none⟩ = some (.int .i64 m)) := Lib.hid HM.out
    clear hc
    go_wp2_with fail
    go_region_held3 (fun w' => w'.cell? ⟨w.heap.size, 3, none⟩ = some (.string x.p)) (first | (with_reducible exact x0) | (with_reducible exact x1) | (with_reducible exact x2))
      (first
        | (go_at_call 25; refine (Delete_any wc.drew d B q lf M H3.out.da hl2 x.p hr1 er M2 HC.out).mono ?_; rintro e w3 ⟨rfl, hd3, ht3⟩
           have HT3 := Lib.hid (H3.out.onD hd3 ht3)
           have hn3 := Two.keepD H.out ht3 (Nat.le_refl _) (o := ob) HNEW.out
           have x1 : w3.cell? ⟨w.heap.size, 3, none⟩ = some (.string x.p) := (HCELL.out w3 hn3).2.2.1
           have HN3 := Lib.hid hn3)
        | (go_at_call 39; obtain ⟨L3, h3⟩ := HT3.out.1; refine (rDelete_any w3 base y q lf A c K h3.rk hl2 (by omega) x.p er M2 (by rw [h3.hK]; exact HC.out)).mono ?_; rintro e w4 ho4
           have hk4 := h3.onY ho4
           have hn4 : w4.heap[w.heap.size]? = some ob := by obtain ⟨_, _, _, _, ht4⟩ := ho4; exact H.out.rk.keepY ht4 (Nat.le_refl _) HN3.out
           obtain ⟨rfl, hk4⟩ := hk4
           have x2 : w4.cell? ⟨w.heap.size, 3, none⟩ = some (.string x.p) := (HCELL.out w4 hn4).2.2.1))
    go_wp2_with fail
    go_ret
    obtain ⟨⟨A4, c4, K4, h4⟩, hb4⟩ := hk4
    exact ⟨ret_bool (by simp), by rw [HEQ.out, HFQ.out]; exact ⟨A4, c4, L3, K4, h4⟩, ((HBA.out.trans (Below.refl _ _).drew).trans HT3.out.2).trans hb4⟩
set_option maxRecDepth 100000 in
set_option maxHeartbeats 4000000 in
theorem doesC_any (w : World) (base d B y : Nat) (q lf : Int) (A : Option Addr) (c : Nat) (L K : List Fl) (M : List Mf) (h : Two w base d B y q lf lf A c L K M M) (h0 : 0 < base) (m : Int) (hm : w.cell? ⟨0, 0, none⟩ = some (.int .i64 m))
    (hq : is64 q) (hl : is64 lf) (hs : SmallM M) (hu : usedM M ≤ 900000) (x : Opv) (hx : OpOk w x) (hkk : kindN x.k 11 = 8 ∨ kindN x.k 11 = 9 ∨ kindN x.k 11 = 10) :
    Calls Tryd.prog 20 #[.pointer (some ⟨d, 0, none⟩), .pointer (some ⟨y, 0, none⟩), .agg #[.int .i64 x.k, .int .i64 x.n, .int .i64 x.m, .string x.p, .string x.q, .slice x.A x.len x.cap]] w
      (DoesOut w base d B y q (doesLf lf x) (doesM q lf M x)) := by
  have HX := Lib.hid hx
  have H := Lib.hid h
  have HRB := Lib.hid hx.2.2.1
  have hrb := reachBytes_lt
  have hr1 : x.p.size ≤ maxLen := by have := hx.2.1.1; unfold maxLen; omega
  have hr2 : x.q.size ≤ maxLen := by have := hx.2.1.2; unfold maxLen; omega
  have hbi := hx.2.2.2.2.1
  have hDl : L.length = M.length := by rw [← h.hL, abs_len]
  have hKl : K.length = M.length := by rw [← h.hK, abs_len]
  have hDu : usedF L = usedM M := by rw [← h.hL]; exact abs_used h.dk.row
  have hKu : usedF K = usedM M := by rw [← h.hK]; exact abs_used h.rk.row
  have hs4 := hs.1
  have HP60 : Hid (∀ f ∈ K, f.p.size ≤ 60) := Lib.hid fun f hf => hs.2 f.abs (by rw [← h.hK]; exact List.mem_map_of_mem hf)
  have hdne : d ≠ 0 := by have := h.hd; omega
  have hBne : B ≠ 0 := by have := h.hB; omega
  have hl2 : -9223372036854775808 ≤ lf ∧ lf < 9223372036854775808 := hl
  have hq2 : -9223372036854775808 ≤ q ∧ q < 9223372036854775808 := hq
  obtain ⟨ob, hob⟩ : ∃ ob, ob = Obj.cells #[.int .i64 x.k, .int .i64 x.n, .int .i64 x.m, .string x.p, .string x.q, .slice x.A x.len x.cap] 43 := ⟨_, rfl⟩
  obtain ⟨wa, hwa⟩ : ∃ wa, wa = w.alloc ob := ⟨_, rfl⟩
  have hbz : base ≤ w.heap.size := h.rk.hs
  have hba : Below w.heap.size w wa := hwa ▸ (Below.refl w.heap.size w).alloc (Nat.le_refl _) ob
  have H2 := Lib.hid (h.below hba)
  have BWC := Lib.hid hba
  have HBA := Lib.hid (show Below base w wa from hwa ▸ (Below.refl base w).alloc hbz ob)
  have HNEW : Hid (wa.heap[w.heap.size]? = some ob) := Lib.hid (hwa ▸ IdiomRange_new w ob)
  have hnl : w.heap.size < wa.heap.size := by rw [hwa]; simp
  have HXA := Lib.hid (hx.below hba)
  have HCELL : Hid (∀ v : World, v.heap[w.heap.size]? = some ob → v.cell? ⟨w.heap.size, 1, none⟩ = some (.int .i64 x.n) ∧ v.cell? ⟨w.heap.size, 2, none⟩ = some (.int .i64 x.m) ∧ v.cell? ⟨w.heap.size, 3, none⟩ = some (.string x.p) ∧ v.cell? ⟨w.heap.size, 4, none⟩ = some (.string x.q)) := Lib.hid fun v hv => by
    rw [hob] at hv
    exact ⟨by rw [cell_of_blk hv]; rfl, by rw [cell_of_blk hv]; rfl, by rw [cell_of_blk hv]; rfl, by rw [cell_of_blk hv]; rfl⟩
  have hnew := HNEW.out
  rw [hob] at hnew
  have g0 : wa.cell? ⟨w.heap.size, 0, none⟩ = some (.int .i64 x.k) := by rw [cell_of_blk hnew]; rfl
  have g1 : wa.cell? ⟨w.heap.size, 1, none⟩ = some (.int .i64 x.n) := by rw [cell_of_blk hnew]; rfl
  have g2 : wa.cell? ⟨w.heap.size, 2, none⟩ = some (.int .i64 x.m) := by rw [cell_of_blk hnew]; rfl
  have g3 : wa.cell? ⟨w.heap.size, 3, none⟩ = some (.string x.p) := by rw [cell_of_blk hnew]; rfl
  have g4 : wa.cell? ⟨w.heap.size, 4, none⟩ = some (.string x.q) := by rw [cell_of_blk hnew]; rfl
  have g5 : wa.cell? ⟨w.heap.size, 5, none⟩ = some (.slice x.A x.len x.cap) := by rw [cell_of_blk hnew]; rfl
  have HM := Lib.hid (show wa.cell? ⟨0, 0, none⟩ = some (.int .i64 m) from (HBA.out.cell (p := ⟨0, 0, none⟩) h0).trans hm)
  clear h hx hba hnew hm
  go_enter Tryd.func20, Tryd.ntmps20
  go_upto_region 1 with fail
  rw [← hob, ← hwa]
  clear hwa
  generalize Value.agg #[.int .i64 x.k, .int .i64 x.n, .int .i64 x.m, .string x.p, .string x.q, .slice x.A x.len x.cap] = ag
  go_upto_if 15 with fail
  go_cut [7] (fun v wx => ∃ (A1 : Option Addr) (m1 c1 : Nat), v = .slice A1 m1 c1 ∧ m1 ≤ 300 ∧ Hid (Ri w .u8 A1 m1 (x.b.take 300)) ∧ wx = wa)
  case first =>
    rcases cut_ri3 HRB.out 300 with ⟨h1, ⟨b2, o2, hA2⟩, h2⟩ | ⟨h1, h2⟩
    · have H2 := Lib.hid h2
      have hA3 := Lib.hid hA2
      have t3 : decide ((300 : Int) < x.len) = true := decide_eq_true (by omega)
      have hc3 : 300 ≤ x.cap := by omega
      rw [hA2]
      clear h2 hA2
      go_wp2_with fail
      go_meet
      exact ⟨_, _, _, rfl, by omega, Lib.hid (hA3.out ▸ H2.out), rfl⟩
    · have H2 := Lib.hid h2
      have t3 : decide ((300 : Int) < x.len) = false := decide_eq_false (by omega)
      clear h2
      go_wp2_with fail
      go_meet
      exact ⟨_, _, _, rfl, h1, H2, rfl⟩
  case rest =>
  obtain ⟨A1, n1, ca1, rfl, hn1, hA1, hw⟩ := hcut
  subst hw
  obtain ⟨k, hk⟩ : ∃ k, k = kindN x.k 11 := ⟨_, rfl⟩
  rw [← hk] at hkk
  have HD : Hid (doesLf lf x = if k = 8 then -1 else if k = 9 then lf else if k = 10 then fuseN (x.n.tmod 20) else burnL lf) := by rw [hk]; exact Lib.hid rfl
  have HE : Hid (doesM q lf M x = if k = 0 ∨ k = 1 then (createM lf M x.p).2 else if k = 2 ∨ k = 3 then (appendM q lf M x.p (x.b.take 300)).2 else if k = 4 then (syncM lf M x.p).2
    else if k = 5 ∨ k = 6 then (moveM lf M x.p x.q).2 else if k = 7 then (deleteM lf M x.p).2 else if k = 8 then crashM x.n M else if k = 9 then corruptM M x.p x.n x.m else M) := by rw [hk]; exact Lib.hid rfl
  have HK := Lib.hid hk
  clear hk
  go_wp2_with fail
  refine (kind_any _ x.k 11 HX.out.1.1 (by omega)).mono ?_; rintro e w4 ⟨rfl, hw4⟩
  rw [hw4]
  clear hw4 w4
  rw [← HK.out]
  rcases hkk with rfl | rfl | rfl
  · have HEQ : Hid (doesM q lf M x = crashM x.n M) := Lib.hid (by rw [HE.out]; simp)
    have HFQ : Hid (doesLf lf x = -1) := Lib.hid (by rw [HD.out]; simp)
    go_wp2_with fail
    refine (Crash_any wc d B q lf M H2.out.da (by omega) (by omega) x.n HX.out.1.2.1).mono ?_; rintro e w3 ⟨rfl, hd3, ht3⟩
    have HT3 := Lib.hid (H2.out.onD hd3 ht3)
    have hn3 := Two.keepD H.out ht3 (Nat.le_refl _) (o := ob) HNEW.out
    obtain ⟨x1, x2, x3, x4⟩ := HCELL.out w3 hn3
    have HN3 := Lib.hid hn3
    clear hd3 ht3 hn3
    go_wp2_with fail
    obtain ⟨L3, h3⟩ := HT3.out.1
    refine (rCrash_any w3 base y q lf A c K h3.rk (by omega) (by omega) x.n HX.out.1.2.1).mono ?_; rintro e w4 ho4
    replace ho4 : ∃ L', absF L' = crashM x.n M ∧ RkOut w3 base y q A c K (-1) L' (.tuple #[]) e w4 := ⟨_, by rw [crashR_abs h3.rk.row, h3.hK], ho4⟩
    obtain ⟨rfl, hk4⟩ := h3.onY ho4
    have HK4 := Lib.hid hk4
    clear ho4 hk4 h3
    go_wp2_with fail
    go_ret
    obtain ⟨⟨A4, c4, K4, h4⟩, hb4⟩ := HK4.out
    exact ⟨rfl, by rw [HEQ.out, HFQ.out]; exact ⟨A4, c4, L3, K4, h4⟩, (HBA.out.trans HT3.out.2).trans hb4⟩
  · have HEQ : Hid (doesM q lf M x = corruptM M x.p x.n x.m) := Lib.hid (by rw [HE.out]; simp)
    have HFQ : Hid (doesLf lf x = lf) := Lib.hid (by rw [HD.out]; simp)
    go_wp2_with fail
    refine (Corrupt_any wc d B q lf M H2.out.da (by omega) (by omega) x.p hr1 x.n x.m HX.out.1.2.1 HX.out.1.2.2).mono ?_; rintro e w3 ⟨rfl, hd3, ht3⟩
    have HT3 := Lib.hid (H2.out.onD hd3 ht3)
    have hn3 := Two.keepD H.out ht3 (Nat.le_refl _) (o := ob) HNEW.out
    obtain ⟨x1, x2, x3, x4⟩ := HCELL.out w3 hn3
    have HN3 := Lib.hid hn3
    clear hd3 ht3 hn3
    go_wp2_with fail
    obtain ⟨L3, h3⟩ := HT3.out.1
    refine (rCorrupt_any w3 base y q lf A c K h3.rk (by omega) (by omega) x.p x.n x.m HX.out.1.2.1 HX.out.1.2.2).mono ?_; rintro e w4 ho4
    rw [h3.hK] at ho4
    obtain ⟨rfl, hk4⟩ := h3.onY ho4
    have HK4 := Lib.hid hk4
    clear ho4 hk4 h3
    go_wp2_with fail
    go_ret
    obtain ⟨⟨A4, c4, K4, h4⟩, hb4⟩ := HK4.out
    exact ⟨rfl, by rw [HEQ.out, HFQ.out]; exact ⟨A4, c4, L3, K4, h4⟩, (HBA.out.trans HT3.out.2).trans hb4⟩
  · have HEQ : Hid (doesM q lf M x = M) := Lib.hid (by rw [HE.out]; simp)
    have HFQ : Hid (doesLf lf x = fuseN (x.n.tmod 20)) := Lib.hid (by rw [HD.out]; simp)
    have hw20 : IntKind.i64.wrap (x.n.tmod 20) = x.n.tmod 20 := IntWalk.i64_in _ (by have := Int.tmod_lt_of_pos x.n (show (0 : Int) < 20 by omega); have := Int.lt_tmod_of_pos x.n (show (0 : Int) < 20 by omega); omega)
    go_wp2_with fail
    refine (Fuse_any wc d B q lf M H2.out.da (x.n.tmod 20)).mono ?_; rintro e w3 ⟨rfl, hd3, ht3⟩
    have HT3 := Lib.hid (H2.out.onD hd3 ht3)
    have hn3 := Two.keepD H.out ht3 (Nat.le_refl _) (o := ob) HNEW.out
    obtain ⟨x1, x2, x3, x4⟩ := HCELL.out w3 hn3
    have HN3 := Lib.hid hn3
    clear hd3 ht3 hn3
    go_wp2_with fail
    obtain ⟨L3, h3⟩ := HT3.out.1
    refine (rFuse_any w3 base y q lf A c K h3.rk (x.n.tmod 20)).mono ?_; rintro e w4 ho4
    replace ho4 : ∃ L', absF L' = M ∧ RkOut w3 base y q A c K (fuseN (x.n.tmod 20)) L' (.tuple #[]) e w4 := ⟨K, h3.hK, ho4⟩
    obtain ⟨rfl, hk4⟩ := h3.onY ho4
    have HK4 := Lib.hid hk4
    clear ho4 hk4 h3
    go_wp2_with fail
    go_ret
    obtain ⟨⟨A4, c4, K4, h4⟩, hb4⟩ := HK4.out
    exact ⟨rfl, by rw [HEQ.out, HFQ.out]; exact ⟨A4, c4, L3, K4, h4⟩, (HBA.out.trans HT3.out.2).trans hb4⟩
end Go.Proofs.YtekdcnlbdgikoaaDoor

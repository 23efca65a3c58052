/- Joined texts: LawDk6. Each has its own head line. No condition beyond those that its theorems state. -/
import Derived.Test.YtekdcnlbdgikoaaDoorJ46
set_option linter.unusedVariables false

/- A call of both: Append; and all kinds. -/
namespace Go.Proofs.YtekdcnlbdgikoaaDoor
open Go.RowKit

set_option maxRecDepth 100000 in
set_option maxHeartbeats 4000000 in
theorem doesD_any (w : World) (base d B y : Nat) (q lf : Int) (A : Option Addr) (c : Nat) (L K : List Fl) (M : List Mf) (h : Two w base d B y q lf lf A c L K M M) (h0 : 0 < base) (m : Int) (hm : w.cell? ⟨0, 0, none⟩ = some (.int .i64 m))
    (hq : is64 q) (hl : is64 lf) (hs : SmallM M) (hu : usedM M ≤ 900000) (x : Opv) (hx : OpOk w x) (hkk : kindN x.k 11 = 2 ∨ kindN x.k 11 = 3) :
    Calls Tryd.prog 20 #[.pointer (some ⟨d, 0, none⟩), .pointer (some ⟨y, 0, none⟩), .agg #[.int .i64 x.k, .int .i64 x.n, .int .i64 x.m, .string x.p, .string x.q, .slice x.A x.len x.cap]] w
      (DoesOut w base d B y q (doesLf lf x) (doesM q lf M x)) := by
  have HX := Lib.hid hx
  have H := Lib.hid h
  have HRB := Lib.hid hx.2.2.1
  have hrb := reachBytes_lt
  have hr1 : x.p.size ≤ maxLen := by have := hx.2.1.1; unfold maxLen; omega
  have hr2 : x.q.size ≤ maxLen := by have := hx.2.1.2; unfold maxLen; omega
  have hbi := hx.2.2.2.2.1
  have hDl : L.length = M.length := by rw [← h.hL, abs_len]
  have hKl : K.length = M.length := by rw [← h.hK, abs_len]
  have hDu : usedF L = usedM M := by rw [← h.hL]; exact abs_used h.dk.row
  have hKu : usedF K = usedM M := by rw [← h.hK]; exact abs_used h.rk.row
  have hs4 := hs.1
  have HP60 : Hid (∀ f ∈ K, f.p.size ≤ 60) := Lib.hid fun f hf => hs.2 f.abs (by rw [← h.hK]; exact List.mem_map_of_mem hf)
  have hdne : d ≠ 0 := by have := h.hd; omega
  have hBne : B ≠ 0 := by have := h.hB; omega
  have hl2 : -9223372036854775808 ≤ lf ∧ lf < 9223372036854775808 := hl
  have hq2 : -9223372036854775808 ≤ q ∧ q < 9223372036854775808 := hq
  obtain ⟨ob, hob⟩ : ∃ ob, ob = Obj.cells #[.int .i64 x.k, .int .i64 x.n, .int .i64 x.m, .string x.p, .string x.q, .slice x.A x.len x.cap] 43 := ⟨_, rfl⟩
  obtain ⟨wa, hwa⟩ : ∃ wa, wa = w.alloc ob := ⟨_, rfl⟩
  have hbz : base ≤ w.heap.size := h.rk.hs
  have hba : Below w.heap.size w wa := hwa ▸ (Below.refl w.heap.size w).alloc (Nat.le_refl _) ob
  have H2 := Lib.hid (h.below hba)
  have BWC := Lib.hid hba
  have HBA := Lib.hid (show Below base w wa from hwa ▸ (Below.refl base w).alloc hbz ob)
  have HNEW : Hid (wa.heap[w.heap.size]? = some ob) := Lib.hid (hwa ▸ IdiomRange_new w ob)
  have hnl : w.heap.size < wa.heap.size := by rw [hwa]; simp
  have HXA := Lib.hid (hx.below hba)
  have HCELL : Hid (∀ v : World, v.heap[w.heap.size]? = some ob → v.cell? ⟨w.heap.size, 1, none⟩ = some (.int .i64 x.n) ∧ v.cell? ⟨w.heap.size, 2, none⟩ = some (.int .i64 x.m) ∧ v.cell? ⟨w.heap.size, 3, none⟩ = some (.string x.p) ∧ v.cell? ⟨w.heap.size, 4, none⟩ = some (.string x.q)) := Lib.hid fun v hv => by
    rw [hob] at hv
    exact ⟨by rw [cell_of_blk hv]; rfl, by rw [cell_of_blk hv]; rfl, by rw [cell_of_blk hv]; rfl, by rw [cell_of_blk hv]; rfl⟩
  have hnew := HNEW.out
  rw [hob] at hnew
  have g0 : wa.cell? ⟨w.heap.size, 0, none⟩ = some (.int .i64 x.k) := by rw [cell_of_blk hnew]; rfl
  have g1 : wa.cell? ⟨w.heap.size, 1, none⟩ = some (.int .i64 x.n) := by rw [cell_of_blk hnew]; rfl
  have g2 : wa.cell? ⟨w.heap.size, 2, none⟩ = some (.int .i64 x.m) := by rw [cell_of_blk hnew]; rfl
  have g3 : wa.cell? ⟨w.heap.size, 3, none⟩ = some (.string x.p) := by rw [cell_of_blk hnew]; rfl
  have g4 : wa.cell? ⟨w.heap.size, 4, none⟩ = some (.string x.q) := by rw [cell_of_blk hnew]; rfl
  have g5 : wa.cell? ⟨w.heap.size, 5, none⟩ = some (.slice x.A x.len x.cap) := by rw [cell_of_blk hnew]; rfl
  have HM := Lib.hid (show wa.cell? ⟨0, 0, none⟩ = some (.int .i64 m) from (HBA.out.cell (p := ⟨0, 0, none⟩) h0).trans hm)
  clear h hx hba hnew hm
  go_enter Tryd.func20, Tryd.ntmps20
  go_upto_region 1 with fail
  rw [← hob, ← hwa]
  clear hwa
  generalize Value.agg #[.int .i64 x.k, .int .i64 x.n, .int .i64 x.m, .string x.p, .string x.q, .slice x.A x.len x.cap] = ag
  go_upto_if 15 with fail
  go_cut [7] (fun v wx => ∃ (A1 : Option Addr) (m1 c1 : Nat), v = .slice A1 m1 c1 ∧ m1 ≤ 300 ∧ Hid (Ri w .u8 A1 m1 (x.b.take 300)) ∧ wx = wa)
  case first =>
    rcases cut_ri3 HRB.out 300 with ⟨h1, ⟨b2, o2, hA2⟩, h2⟩ | ⟨h1, h2⟩
    · have H2 := Lib.hid h2
      have hA3 := Lib.hid hA2
      have t3 : decide ((300 : Int) < x.len) = true := decide_eq_true (by omega)
      have hc3 : 300 ≤ x.cap := by omega
      rw [hA2]
      clear h2 hA2
      go_wp2_with fail
      go_meet
      exact ⟨_, _, _, rfl, by omega, Lib.hid (hA3.out ▸ H2.out), rfl⟩
    · have H2 := Lib.hid h2
      have t3 : decide ((300 : Int) < x.len) = false := decide_eq_false (by omega)
      clear h2
      go_wp2_with fail
      go_meet
      exact ⟨_, _, _, rfl, h1, H2, rfl⟩
  case rest =>
  obtain ⟨A1, n1, ca1, rfl, hn1, hA1, hw⟩ := hcut
  subst hw
  obtain ⟨k, hk⟩ : ∃ k, k = kindN x.k 11 := ⟨_, rfl⟩
  rw [← hk] at hkk
  have HD : Hid (doesLf lf x = if k = 8 then -1 else if k = 9 then lf else if k = 10 then fuseN (x.n.tmod 20) else burnL lf) := by rw [hk]; exact Lib.hid rfl
  have HE : Hid (doesM q lf M x = if k = 0 ∨ k = 1 then (createM lf M x.p).2 else if k = 2 ∨ k = 3 then (appendM q lf M x.p (x.b.take 300)).2 else if k = 4 then (syncM lf M x.p).2
    else if k = 5 ∨ k = 6 then (moveM lf M x.p x.q).2 else if k = 7 then (deleteM lf M x.p).2 else if k = 8 then crashM x.n M else if k = 9 then corruptM M x.p x.n x.m else M) := by rw [hk]; exact Lib.hid rfl
  have HK := Lib.hid hk
  clear hk
  go_wp2_with fail
  refine (kind_any _ x.k 11 HX.out.1.1 (by omega)).mono ?_; rintro e w4 ⟨rfl, hw4⟩
  rw [hw4]
  clear hw4 w4
  rw [← HK.out]
  rcases hkk with rfl | rfl
  · obtain ⟨er, M2, hc⟩ : ∃ er M2, appendM q lf M x.p (x.b.take 300) = (er, M2) := ⟨_, _, rfl⟩
    have HC := Lib.hid hc
    have HEQ : Hid (doesM q lf M x = M2) := Lib.hid (by rw [HE.out]; simp [hc])
    have HFQ : Hid (doesLf lf x = burnL lf) := Lib.hid (by rw [HD.out]; simp)
    have HU8 : Hid (U8 (x.b.take 300)) := Lib.hid (HX.out.2.2.2.1.take 300)
    have HA2 := Lib.hid (hA1.out.below (w' := wc) (by exact BWC.out))
    obtain ⟨lb, hlb⟩ : ∃ lb, lb = x.b.take 300 := ⟨_, rfl⟩
    rw [← hlb] at HC HU8 HA2
    have HO := Lib.hid (own_empty wc 5 1)
    have HRA := Lib.hid (HA2.out.alloc (.cells #[] 5))
    have hll := HA2.out.len
    clear hc hlb
    go_wp2_with (at_builtin; refine wpList_u8 _ rfl (.tmp 36) (.tmp 37) rfl wc.heap.size _ 0 [] rfl HO.out _ _ _ lb rfl HRA.out (by omega) (by simp) ?_; intro G c3 w1 ho1 hg1 _; have HB1 := Lib.hid (push0 ((Below.refl wc.heap.size wc).alloc (Nat.le_refl _) (.cells #[] 5)) (Nat.le_refl _) HO.out hg1); have g13 : w1.cell? ⟨w.heap.size, 3, none⟩ = some (.string x.p) := (HB1.out.cell (p := ⟨w.heap.size, 3, none⟩) hnl).trans g3)
    rw [Nat.zero_add, List.nil_append] at ho1
    have H1 := Lib.hid (H2.out.below HB1.out)
    have HO1 := Lib.hid ho1
    have hbk := fun k (hk : some k = (Value.slice G n1 c3).ownBlock) => ho1.lt k hk.symm
    have HBK := Lib.hid hbk
    clear ho1 hg1 hbk
    go_wp2_with fail
    refine (AppendO_any w1 d B q lf L H1.out.dk hl2 x.p hr1 (by omega) (by omega) G n1 c3 lb (Ri.of_own HO1.out) HU8.out (by omega) er M2 (by rw [H1.out.hL]; exact HC.out)).mono ?_
    rintro e w2 ⟨rfl, ⟨L2, hL2, hd2, hx2⟩, ht2⟩
    have HT2 := Lib.hid ht2
    have HD2 := Lib.hid hd2
    have HX2 := Lib.hid hx2
    have HL2 := Lib.hid hL2
    have hdl := H2.out.dk.lt
    have hBl := H2.out.dk.ltB
    have HTC := Lib.hid ((Turn.of_below (d := d) (B := B) HB1.out).trans ht2)
    clear ht2 hd2 hx2 hL2
    have HFIN : Hid (∀ w3 : World, (n1 = 0 ∧ w3 = w2) ∨ (∃ gg, G = some ⟨gg, 0, none⟩ ∧ w2.grownBy w3 (some gg)) → Two w3 base d B y q (burnL lf) lf A c L2 K M2 M ∧ Ri w3 .u8 A1 n1 lb ∧ Below base wc w3 ∧ w3.heap[w.heap.size]? = some ob) := Lib.hid fun w3 hw => by
      have ht : Turn d B wc w3 ∧ Dk w3 d B q (burnL lf) L2 := by
        rcases hw with ⟨_, rfl⟩ | ⟨gg, hG, hg⟩
        · exact ⟨HTC.out, HD2.out⟩
        · have hgl := HBK.out gg (by rw [hG]; rfl)
          exact ⟨HTC.out.grown hg (fun k e => by injection e with e; omega), Dk.wrote H2.out.dk HD2.out HX2.out hgl.1 hgl.2 hg⟩
      exact ⟨⟨ht.2, H2.out.rk.turn H2.out.dk ht.1, HL2.out, H2.out.hK, H2.out.hd, H2.out.hB⟩, HA2.out.turn (H2.out.dk.far HA2.out) ht.1, Turn.below (Below.refl base wc) ht.1 H2.out.hd H2.out.hB H2.out.rk.hs, Two.keepD H.out ht.1 (Nat.le_refl _) HNEW.out⟩
    go_wp2_with fail
    rcases Nat.eq_zero_or_pos n1 with hz | hz
    · subst hz
      refine wp_loop_rounds 1 ?_
      rw [rounds_succ]
      obtain ⟨hti, hri, hbi2, hnb⟩ := HFIN.out w2 (.inl ⟨rfl, rfl⟩)
      have x3 := (HCELL.out _ hnb).2.2.1
      have HTI := Lib.hid hti
      have HRI := Lib.hid hri
      have HBI := Lib.hid hbi2
      clear hti hri hbi2 hnb
      go_wp2_with fail
      refine (rAppend_any w2 base y q lf A c K HTI.out.rk hl2 hq2 (by omega) (by omega) x.p A1 0 ca1 lb HRI.out HU8.out (by omega) er M2 (by rw [HTI.out.hK]; exact HC.out)).mono ?_; rintro e w4 ho4
      obtain ⟨rfl, hk4⟩ := HTI.out.onY ho4
      have HK4 := Lib.hid hk4
      clear ho4 hk4
      go_wp2_with fail
      go_ret
      obtain ⟨⟨A4, c4, K4, h4⟩, hb4⟩ := HK4.out
      exact ⟨ret_bool (by simp), by rw [HEQ.out, HFQ.out]; exact ⟨A4, c4, L2, K4, h4⟩, (HBA.out.trans HBI.out).trans hb4⟩
    · obtain ⟨gg, cc, hv, hgb, hgl⟩ := HO1.out.form hz
      injection hv with hv _ hv3
      subst hv hv3
      have ho2 : w2.ownsRow wc.heap.size 5 1 (.slice (some ⟨gg, 0, none⟩) n1 c3) n1 (lb.map (Value.int .u8)) := by
        refine ⟨HO1.out.1, ?_⟩
        rcases HO1.out.2 with hn | ⟨g, cap, cur, hv, hb, hg, hr⟩
        · exact .inl hn
        · refine .inr ⟨g, cap, cur, hv, hb, (HT2.out.block g ?_ (by omega) (by omega)).trans hg, hr⟩
          rcases Nat.lt_or_ge g w1.heap.size with k | k
          · exact k
          · rw [Array.getElem?_eq_none k] at hg; cases hg
      have HO2 := Lib.hid ho2
      clear ho2
      go_loopg [10] n1 (fun gk v wr => ∃ (j : Nat) (l : List Int), v = .int .i64 j ∧ j ≤ n1 ∧ n1 - j ≤ gk ∧ Hid (wr.ownsRow wc.heap.size 5 1 (.slice (some ⟨gg, 0, none⟩) n1 c3) n1 (l.map (Value.int .u8))) ∧ Hid (w2.grownBy wr (some gg)))
      case atStart => exact ⟨0, lb, rfl, by omega, by omega, HO2, Lib.hid ⟨rfl, rfl, rfl, Nat.le_refl _, fun _ _ _ => rfl⟩⟩
      case round =>
      obtain ⟨j, l, rfl, hjn, hgk, how, hgr⟩ := hrel
      by_cases hlt : j < n1
      · have t0 : decide (j < n1) = true := decide_eq_true hlt
        have hll2 : l.length = n1 := by have := how.out.1; simpa using this
        have hcj := (how.out.cellAt j (by omega)).trans (show (l.map (Value.int .u8))[j]? = some (.int .u8 (l[j]'(by omega))) from by rw [List.getElem?_map, List.getElem?_eq_getElem (by omega)]; rfl)
        have hfj := how.out.frozenAt j
        have hst := how.out.stored j (.int .u8 99)
        rw [← List.map_set] at hst
        have HST := Lib.hid hst
        clear hst
        go_wp2_with fail
        go_roundg (n1 - (j + 1))
        case measure => omega
        case rel => exact ⟨j + 1, _, by go_num, by omega, by omega, Lib.hid HST.out.1, Lib.hid (hgr.out.trans HST.out.2)⟩
      have t0 : decide (j < n1) = false := decide_eq_false hlt
      obtain ⟨hti, hri, hbi2, hnb⟩ := HFIN.out wr (.inr ⟨gg, rfl, hgr.out⟩)
      have x3 := (HCELL.out _ hnb).2.2.1
      have HTI := Lib.hid hti
      have HRI := Lib.hid hri
      have HBI := Lib.hid hbi2
      clear hti hri hbi2 hnb
      go_wp2_with fail
      refine (rAppend_any wr base y q lf A c K HTI.out.rk hl2 hq2 (by omega) (by omega) x.p A1 n1 ca1 lb HRI.out HU8.out (by omega) er M2 (by rw [HTI.out.hK]; exact HC.out)).mono ?_; rintro e w4 ho4
      obtain ⟨rfl, hk4⟩ := HTI.out.onY ho4
      have HK4 := Lib.hid hk4
      clear ho4 hk4
      go_wp2_with fail
      go_ret
      obtain ⟨⟨A4, c4, K4, h4⟩, hb4⟩ := HK4.out
      exact ⟨ret_bool (by simp), by rw [HEQ.out, HFQ.out]; exact ⟨A4, c4, L2, K4, h4⟩, (HBA.out.trans HBI.out).trans hb4⟩
  · obtain ⟨er, M2, hc⟩ : ∃ er M2, appendM q lf M x.p (x.b.take 300) = (er, M2) := ⟨_, _, rfl⟩
    have HC := Lib.hid hc
    have HEQ : Hid (doesM q lf M x = M2) := Lib.hid (by rw [HE.out]; simp [hc])
    have HFQ : Hid (doesLf lf x = burnL lf) := Lib.hid (by rw [HD.out]; simp)
    have HU8 : Hid (U8 (x.b.take 300)) := Lib.hid (HX.out.2.2.2.1.take 300)
    have HA2 := Lib.hid (hA1.out.below (w' := wc) (by exact BWC.out))
    obtain ⟨lb, hlb⟩ : ∃ lb, lb = x.b.take 300 := ⟨_, rfl⟩
    rw [← hlb] at HC HU8 HA2
    have HO := Lib.hid (own_empty wc 5 1)
    have HRA := Lib.hid (HA2.out.alloc (.cells #[] 5))
    have hll := HA2.out.len
    clear hc hlb
    go_wp2_with (at_builtin; refine wpList_u8 _ rfl (.tmp 36) (.tmp 37) rfl wc.heap.size _ 0 [] rfl HO.out _ _ _ lb rfl HRA.out (by omega) (by simp) ?_; intro G c3 w1 ho1 hg1 _; have HB1 := Lib.hid (push0 ((Below.refl wc.heap.size wc).alloc (Nat.le_refl _) (.cells #[] 5)) (Nat.le_refl _) HO.out hg1); have g13 : w1.cell? ⟨w.heap.size, 3, none⟩ = some (.string x.p) := (HB1.out.cell (p := ⟨w.heap.size, 3, none⟩) hnl).trans g3)
    rw [Nat.zero_add, List.nil_append] at ho1
    have H1 := Lib.hid (H2.out.below HB1.out)
    have HO1 := Lib.hid ho1
    have hbk := fun k (hk : some k = (Value.slice G n1 c3).ownBlock) => ho1.lt k hk.symm
    have HBK := Lib.hid hbk
    clear ho1 hg1 hbk
    go_wp2_with fail
    refine (AppendO_any w1 d B q lf L H1.out.dk hl2 x.p hr1 (by omega) (by omega) G n1 c3 lb (Ri.of_own HO1.out) HU8.out (by omega) er M2 (by rw [H1.out.hL]; exact HC.out)).mono ?_
    rintro e w2 ⟨rfl, ⟨L2, hL2, hd2, hx2⟩, ht2⟩
    have HT2 := Lib.hid ht2
    have HD2 := Lib.hid hd2
    have HX2 := Lib.hid hx2
    have HL2 := Lib.hid hL2
    have hdl := H2.out.dk.lt
    have hBl := H2.out.dk.ltB
    have HTC := Lib.hid ((Turn.of_below (d := d) (B := B) HB1.out).trans ht2)
    clear ht2 hd2 hx2 hL2
    have HFIN : Hid (∀ w3 : World, (n1 = 0 ∧ w3 = w2) ∨ (∃ gg, G = some ⟨gg, 0, none⟩ ∧ w2.grownBy w3 (some gg)) → Two w3 base d B y q (burnL lf) lf A c L2 K M2 M ∧ Ri w3 .u8 A1 n1 lb ∧ Below base wc w3 ∧ w3.heap[w.heap.size]? = some ob) := Lib.hid fun w3 hw => by
      have ht : Turn d B wc w3 ∧ Dk w3 d B q (burnL lf) L2 := by
        rcases hw with ⟨_, rfl⟩ | ⟨gg, hG, hg⟩
        · exact ⟨HTC.out, HD2.out⟩
        · have hgl := HBK.out gg (by rw [hG]; rfl)
          exact ⟨HTC.out.grown hg (fun k e => by injection e with e; omega), Dk.wrote H2.out.dk HD2.out HX2.out hgl.1 hgl.2 hg⟩
      exact ⟨⟨ht.2, H2.out.rk.turn H2.out.dk ht.1, HL2.out, H2.out.hK, H2.out.hd, H2.out.hB⟩, HA2.out.turn (H2.out.dk.far HA2.out) ht.1, Turn.below (Below.refl base wc) ht.1 H2.out.hd H2.out.hB H2.out.rk.hs, Two.keepD H.out ht.1 (Nat.le_refl _) HNEW.out⟩
    go_wp2_with fail
    rcases Nat.eq_zero_or_pos n1 with hz | hz
    · subst hz
      refine wp_loop_rounds 1 ?_
      rw [rounds_succ]
      obtain ⟨hti, hri, hbi2, hnb⟩ := HFIN.out w2 (.inl ⟨rfl, rfl⟩)
      have x3 := (HCELL.out _ hnb).2.2.1
      have HTI := Lib.hid hti
      have HRI := Lib.hid hri
      have HBI := Lib.hid hbi2
      clear hti hri hbi2 hnb
      go_wp2_with fail
      refine (rAppend_any w2 base y q lf A c K HTI.out.rk hl2 hq2 (by omega) (by omega) x.p A1 0 ca1 lb HRI.out HU8.out (by omega) er M2 (by rw [HTI.out.hK]; exact HC.out)).mono ?_; rintro e w4 ho4
      obtain ⟨rfl, hk4⟩ := HTI.out.onY ho4
      have HK4 := Lib.hid hk4
      clear ho4 hk4
      go_wp2_with fail
      go_ret
      obtain ⟨⟨A4, c4, K4, h4⟩, hb4⟩ := HK4.out
      exact ⟨ret_bool (by simp), by rw [HEQ.out, HFQ.out]; exact ⟨A4, c4, L2, K4, h4⟩, (HBA.out.trans HBI.out).trans hb4⟩
    · obtain ⟨gg, cc, hv, hgb, hgl⟩ := HO1.out.form hz
      injection hv with hv _ hv3
      subst hv hv3
      have ho2 : w2.ownsRow wc.heap.size 5 1 (.slice (some ⟨gg, 0, none⟩) n1 c3) n1 (lb.map (Value.int .u8)) := by
        refine ⟨HO1.out.1, ?_⟩
        rcases HO1.out.2 with hn | ⟨g, cap, cur, hv, hb, hg, hr⟩
        · exact .inl hn
        · refine .inr ⟨g, cap, cur, hv, hb, (HT2.out.block g ?_ (by omega) (by omega)).trans hg, hr⟩
          rcases Nat.lt_or_ge g w1.heap.size with k | k
          · exact k
          · rw [Array.getElem?_eq_none k] at hg; cases hg
      have HO2 := Lib.hid ho2
      clear ho2
      go_loopg [10] n1 (fun gk v wr => ∃ (j : Nat) (l : List Int), v = .int .i64 j ∧ j ≤ n1 ∧ n1 - j ≤ gk ∧ Hid (wr.ownsRow wc.heap.size 5 1 (.slice (some ⟨gg, 0, none⟩) n1 c3) n1 (l.map (Value.int .u8))) ∧ Hid (w2.grownBy wr (some gg)))
      case atStart => exact ⟨0, lb, rfl, by omega, by omega, HO2, Lib.hid ⟨rfl, rfl, rfl, Nat.le_refl _, fun _ _ _ => rfl⟩⟩
      case round =>
      obtain ⟨j, l, rfl, hjn, hgk, how, hgr⟩ := hrel
      by_cases hlt : j < n1
      · have t0 : decide (j < n1) = true := decide_eq_true hlt
        have hll2 : l.length = n1 := by have := how.out.1; simpa using this
        have hcj := (how.out.cellAt j (by omega)).trans (show (l.map (Value.int .u8))[j]? = some (.int .u8 (l[j]'(by omega))) from by rw [List.getElem?_map, List.getElem?_eq_getElem (by omega)]; rfl)
        have hfj := how.out.frozenAt j
        have hst := how.out.stored j (.int .u8 99)
        rw [← List.map_set] at hst
        have HST := Lib.hid hst
        clear hst
        go_wp2_with fail
        go_roundg (n1 - (j + 1))
        case measure => omega
        case rel => exact ⟨j + 1, _, by go_num, by omega, by omega, Lib.hid HST.out.1, Lib.hid (hgr.out.trans HST.out.2)⟩
      have t0 : decide (j < n1) = false := decide_eq_false hlt
      obtain ⟨hti, hri, hbi2, hnb⟩ := HFIN.out wr (.inr ⟨gg, rfl, hgr.out⟩)
      have x3 := (HCELL.out _ hnb).2.2.1
      have HTI := Lib.hid hti
      have HRI := Lib.hid hri
      have HBI := Lib.hid hbi2
      clear hti hri hbi2 hnb
      go_wp2_with fail
      refine (rAppend_any wr base y q lf A c K HTI.out.rk hl2 hq2 (by omega) (by omega) x.p A1 n1 ca1 lb HRI.out HU8.out (by omega) er M2 (by rw [HTI.out.hK]; exact HC.out)).mono ?_; rintro e w4 ho4
      obtain ⟨rfl, hk4⟩ := HTI.out.onY ho4
      have HK4 := Lib.hid hk4
      clear ho4 hk4
      go_wp2_with fail
      go_ret
      obtain ⟨⟨A4, c4, K4, h4⟩, hb4⟩ := HK4.out
      exact ⟨ret_bool (by simp), by rw [HEQ.out, HFQ.out]; exact ⟨A4, c4, L2, K4, h4⟩, (HBA.out.trans HBI.out).trans hb4⟩
theorem does_any (w : World) (base d B y : Nat) (q lf : Int) (A : Option Addr) (c : Nat) (L K : List Fl) (M : List Mf) (h : Two w base d B y q lf lf A c L K M M) (h0 : 0 < base) (m : Int) (hm : w.cell? ⟨0, 0, none⟩ = some (.int .i64 m))
    (hq : is64 q) (hl : is64 lf) (hs : SmallM M) (hu : usedM M ≤ 900000) (x : Opv) (hx : OpOk w x) :
    Calls Tryd.prog 20 #[.pointer (some ⟨d, 0, none⟩), .pointer (some ⟨y, 0, none⟩), .agg #[.int .i64 x.k, .int .i64 x.n, .int .i64 x.m, .string x.p, .string x.q, .slice x.A x.len x.cap]] w
      (DoesOut w base d B y q (doesLf lf x) (doesM q lf M x)) := by
  have hkb := kindN_bound x.k (n := 11) (by omega)
  have hk : (kindN x.k 11 = 0 ∨ kindN x.k 11 = 1 ∨ kindN x.k 11 = 4) ∨ (kindN x.k 11 = 5 ∨ kindN x.k 11 = 6 ∨ kindN x.k 11 = 7) ∨ (kindN x.k 11 = 8 ∨ kindN x.k 11 = 9 ∨ kindN x.k 11 = 10) ∨ (kindN x.k 11 = 2 ∨ kindN x.k 11 = 3) := by omega
  rcases hk with hk | hk | hk | hk
  · exact doesA_any w base d B y q lf A c L K M h h0 m hm hq hl hs hu x hx hk
  · exact doesB_any w base d B y q lf A c L K M h h0 m hm hq hl hs hu x hx hk
  · exact doesC_any w base d B y q lf A c L K M h h0 m hm hq hl hs hu x hx hk
  · exact doesD_any w base d B y q lf A c L K M h h0 m hm hq hl hs hu x hx hk
end Go.Proofs.YtekdcnlbdgikoaaDoor

/- Joined texts: RfD. Each has its own head line. No condition beyond those that its theorems state. -/
import Derived.Deep.CutBlock
import Derived.Deep.Onto
import Derived.Deep.DeepCutAuto
import Derived.Test.YtekdcnlbdgikoaaDoorJ41
set_option linter.unusedVariables false

/- The reference's disk: add. -/
namespace Go.Proofs.YtekdcnlbdgikoaaDoor
open Go.RowKit

theorem less_before : ∀ (a b : List UInt8), Op.bytesLess a b = bytesBefore a b
  | [], [] => rfl
  | [], _ :: _ => rfl
  | _ :: _, [] => rfl
  | x :: r, y :: s => by
    have ih := less_before r s
    unfold Op.bytesLess bytesBefore
    rw [ih]
theorem less_bef (s t : ByteArray) : Op.bytesLess s.toList t.toList = befF s t := by
  rw [less_before, ByteArray.toList_eq, ByteArray.toList_eq]; rfl
theorem ins_at {f : Fl} : ∀ {L : List Fl} {k : Nat}, k ≤ L.length → (∀ i (hi : i < L.length), i < k → befF L[i].p f.p = true) → (∀ hk : k < L.length, befF L[k].p f.p = false) → (∀ g ∈ L, g.p ≠ f.p) → insF f L = L.take k ++ f :: L.drop k
  | [], k, hk, _, _, _ => by
    obtain rfl : k = 0 := by simpa using hk
    rfl
  | g :: r, 0, _, _, h2, h3 => by
    have hb : befF f.p g.p = true := by
      rcases befF_total (h3 g List.mem_cons_self) with h | h
      · rw [show befF g.p f.p = false from h2 (by simp)] at h; cases h
      · exact h
    rw [insF, if_pos hb]
    rfl
  | g :: r, k + 1, hk, h1, h2, h3 => by
    have hb : befF g.p f.p = true := h1 0 (by simp) (by omega)
    rw [insF, if_neg (by rw [befF_asymm hb]; simp), ins_at (k := k) (by simpa using hk) (fun i hi hik => h1 (i + 1) (by simpa using hi) (by omega)) (fun hk2 => h2 (by simpa using hk2)) (fun x hx => h3 x (List.mem_cons_of_mem _ hx))]
    rfl
section
variable {w : World} {A : Option Addr} {n c g : Nat} {L : List Fl}
theorem Rf.of_own {base : Nat} {e : TypeId} (h : w.ownsRow base e 3 (.slice A n c) n (cellsF L)) : Rf w A n L := Rd.of_own h
theorem Rf.first (h : Rf w A n L) {k : Nat} (hk : k ≤ n) : Rf w A k (L.take k) := by
  have hl : L.length = n := by have := h.1; rw [cellsF_len] at this; omega
  refine ⟨by rw [cellsF_len, List.length_take]; rw [hl, Nat.min_eq_left hk], fun h0 => ?_⟩
  obtain ⟨b, o, e, hb, hc⟩ := h.2 (by omega)
  refine ⟨b, o, e, hb, fun j u hu => hc j u ?_⟩
  rw [← cellsF_take] at hu
  have hj : j < k * 3 := by
    rcases Nat.lt_or_ge j (k * 3) with hlt | hge
    · exact hlt
    · rw [List.getElem?_eq_none (by rw [List.length_take]; omega)] at hu; cases hu
  rwa [List.getElem?_take_of_lt hj] at hu
theorem Rf.rest (h : Rf w (some ⟨g, 0, none⟩) n L) {k : Nat} (hk : k ≤ n) : Rf w (some ⟨g, k * 3, none⟩) (n - k) (L.drop k) := by
  have hl : L.length = n := by have := h.1; rw [cellsF_len] at this; omega
  refine ⟨by rw [cellsF_len, List.length_drop, hl], fun h0 => ?_⟩
  obtain ⟨b, o, e, hb, hc⟩ := h.2 (by omega)
  injection e with e
  injection e with e1 e2
  subst e1 e2
  refine ⟨_, _, rfl, hb, fun j u hu => ?_⟩
  rw [← cellsF_drop, List.getElem?_drop] at hu
  have := hc _ u hu
  rwa [Nat.zero_add] at this
theorem Rf.below {w' : World} (h : Rf w A n L) (hb : Below w.heap.size w w') : Rf w' A n L := Rd.below h hb
theorem Rf.nil0 (w : World) (A : Option Addr) : Rf w A 0 [] := Rd.nil w 3 A
end
theorem Rf.cutk {w : World} {A : Option Addr} {n : Nat} {L : List Fl} (h : Rf w A n L) {k : Nat} (hk : k ≤ n) {c : Nat} (hc : n ≤ c) : Rf w (if c = k then A else A.map (·.add (k * 3))) (n - k) (L.drop k) := by
  have hl : L.length = n := by have := h.1; rw [cellsF_len] at this; omega
  have := Rd.cut h hk (Nat.le_refl n) c hc
  rw [cellsF_drop, List.take_of_length_le (by rw [cellsF_len, List.length_drop, hl]; exact Nat.le_refl _)] at this
  exact this
/-- A file's row of one, new. -/
theorem Rf.lit (w : World) (f : Fl) (t : TypeId) (z : Nat × Nat) : Rf (w.alloc (.cells #[.string f.p, .slice f.A f.n f.c, .int .i64 f.safe] t z)) (some ⟨w.heap.size, 0, none⟩) 1 [f] :=
  ⟨rfl, fun _ => ⟨w.heap.size, 0, rfl, by simp, fun j u hu => by
    rw [cell_of_blk (IdiomRange_new w _), Nat.zero_add]
    simpa [cellsF, Fl.cells] using hu⟩⟩

/-- The row of files is a new one. -/
theorem Rk.newRow {w : World} {base y H n c c2 : Nat} {q lf : Int} {A G : Option Addr} {L K : List Fl} (h : Rk w base y q lf A c L) (ho : w.ownsRow H 80 3 (.slice G n c2) n (cellsF K)) (hn : n = K.length) (hb : base ≤ H) (hyH : y < H) (hrow : ∀ f ∈ K, FlOk w f) (hs : SortF K) :
    Rk (w.setCell ⟨y, 2, none⟩ (.slice G n c2)) base y q lf G c2 K ∧ TurnR y (Value.slice A L.length c).ownBlock (L.length * 3) w (w.setCell ⟨y, 2, none⟩ (.slice G n c2)) := by
  subst hn
  have ht : TurnR y (Value.slice A L.length c).ownBlock (L.length * 3) w (w.setCell ⟨y, 2, none⟩ (.slice G K.length c2)) := (TurnR.refl w).setCell (p := ⟨y, 2, none⟩) (.inl rfl) _
  refine ⟨⟨?_, ?_, fun x hx => (hrow x hx).turnR h ht, hs, h.hy, by simpa [World.setCell] using h.hs⟩, ht⟩
  · simp only [World.setCell, Array.getElem?_modify, if_pos, h.blk]
    rfl
  · refine World.ownsRow.mono (World.ownsRow.kept (row := some y) ho ⟨rfl, rfl, rfl, by simp [World.setCell], fun k _ hk => Below.heap_setCell _ _ _ _ (fun e => hk (by rw [e]))⟩ ?_) hb
    cases hg : (Value.slice G K.length c2).ownBlock with
    | none => exact .inl rfl
    | some k =>
      refine .inr fun e => ?_
      have := (ho.lt k hg).1
      injection e with e
      omega

theorem add_end {w w5 : World} {base y H n c c2 k : Nat} {q lf : Int} {A G : Option Addr} {L : List Fl} {f : Fl} (hd : Rk w5 base y q lf A c L) (ho : w5.ownsRow H 80 3 (.slice G n c2) n (cellsF (L.take k ++ [f] ++ L.drop k))) (hi : insF f L = L.take k ++ f :: L.drop k) (hn : n = L.length + 1) (hb : base ≤ H) (hyH : y < H)
    (hf : FlOk w5 f) (hnew : ∀ g ∈ L, g.p ≠ f.p) (ht : TurnR y (Value.slice A L.length c).ownBlock (L.length * 3) w w5) :
    RkOut w base y q A c L lf (insF f L) (.tuple #[]) (.returned (.tuple #[])) (w5.setCell ⟨y, 2, none⟩ (.slice G n c2)) := by
  have e : L.take k ++ [f] ++ L.drop k = insF f L := by rw [hi]; simp
  rw [e] at ho
  have h := hd.newRow ho (by rw [hn, insF_len]) hb hyH (fun x hx => by
    rcases mem_ins.1 hx with rfl | hx
    · exact hf
    · exact hd.row x hx) (sort_ins hd.sort hnew)
  exact ⟨rfl, ⟨_, _, h.1⟩, ht.trans h.2⟩
set_option maxRecDepth 100000 in
set_option maxHeartbeats 4000000 in
theorem add_any (w : World) (base y : Nat) (q lf : Int) (A : Option Addr) (c : Nat) (L : List Fl) (h : Rk w base y q lf A c L) (hlen : L.length < 1000000) (f : Fl) (hf : FlOk w f) (hnew : ∀ g ∈ L, g.p ≠ f.p) :
    Calls Tryd.prog 60 #[.pointer (some ⟨y, 0, none⟩), .agg #[.string f.p, .slice f.A f.n f.c, .int .i64 f.safe]] w (RkOut w base y q A c L lf (insF f L) (.tuple #[])) := by
  have HD := Lib.hid h
  have HF := Lib.hid hf
  have HNEW := Lib.hid hnew
  obtain ⟨ob, hob⟩ : ∃ ob, ob = Obj.cells #[.string f.p, .slice f.A f.n f.c, .int .i64 f.safe] 80 := ⟨_, rfl⟩
  obtain ⟨wa, hwa⟩ : ∃ wa, wa = w.alloc ob := ⟨_, rfl⟩
  have hba : Below w.heap.size w wa := hwa ▸ (Below.refl w.heap.size w).alloc (Nat.le_refl _) ob
  have hda := h.below hba
  have hnb : wa.heap[w.heap.size]? = some ob := hwa ▸ IdiomRange_new w ob
  have HBA := Lib.hid hba; have HDA := Lib.hid hda
  have c2 := hda.c2
  have p0 : wa.cell? ⟨w.heap.size, 0, none⟩ = some (.string f.p) := by rw [hob] at hnb; rw [cell_of_blk hnb]; rfl
  have p1 : wa.cell? ⟨w.heap.size, 1, none⟩ = some (.slice f.A f.n f.c) := by rw [hob] at hnb; rw [cell_of_blk hnb]; rfl
  have p2 : wa.cell? ⟨w.heap.size, 2, none⟩ = some (.int .i64 f.safe) := by rw [hob] at hnb; rw [cell_of_blk hnb]; rfl
  have hrow := hda.addr
  have hwl : w.heap.size < wa.heap.size := World.block_lt_of_cell? _ _ p0
  have hyl : y < w.heap.size := h.lt
  clear h hf hnew hba hda hnb
  obtain ⟨N, hN⟩ : ∃ N, N = L.length := ⟨_, rfl⟩
  have HL := Lib.hid hN
  rw [← hN] at hlen c2
  go_enter Tryd.func60, Tryd.ntmps60
  go_upto_block 0 with fail
  rw [← hob, ← hwa]
  clear hwa
  go_cut [4] (fun v wx => ∃ k q1 : Nat, v = .int .i64 k ∧ k ≤ N ∧ Hid (∀ i (hi : i < L.length), i < k → befF L[i].p f.p = true) ∧ Hid (∀ hk : k < L.length, befF L[k].p f.p = false) ∧ wx = wa.drewN q1)
  case first =>
    rcases hrow with rfl | ⟨h0, g, rfl, hgl, hcells⟩
    · obtain rfl : N = 0 := hN
      go_wp2_with fail
      refine wp_loop_rounds 1 ?_
      rw [rounds_succ]
      go_wp2_with fail
      go_quiet (fail)
      go_wp2_with fail
      go_meet
      exact ⟨0, nq, rfl, by omega, Lib.hid fun i hi => absurd hi (Nat.not_lt_zero _), Lib.hid fun hk => absurd hk (Nat.not_lt_zero _), rfl⟩
    · have HC := Lib.hid hcells
      clear hcells hN
      go_wp2_with fail
      go_loopg [4] N (fun gg v wr => ∃ k : Nat, v = .int .i64 k ∧ k ≤ N ∧ N - k ≤ gg ∧ Hid (∀ i (hi : i < L.length), i < k → befF L[i].p f.p = true) ∧ ∃ q, wr = wa.drewN q)
      case atStart => exact ⟨0, rfl, by omega, by omega, Lib.hid fun i _ h => absurd h (Nat.not_lt_zero _), 0, rfl⟩
      case round =>
        obtain ⟨k, rfl, hkN, hgg, hbf, q1, rfl⟩ := hrel
        by_cases hlt : k < N
        · have t1 : decide (k < N) = true := decide_eq_true hlt
          have hk : k < L.length := by rw [← HL.out]; exact hlt
          obtain ⟨k0, _, _⟩ := HC.out k hk
          obtain ⟨x, hx⟩ : ∃ x, x = L[k].p := ⟨_, rfl⟩
          rw [← hx] at k0
          have HX := Lib.hid hx
          obtain ⟨bb, hb⟩ : ∃ bb, befF x f.p = bb := ⟨_, rfl⟩
          have e1 : Op.bytesLess x.toList f.p.toList = bb := (less_bef x f.p).trans hb
          have HB := Lib.hid hb
          clear hx hb
          cases bb
          · have HF2 : Hid (∀ hk : k < L.length, befF L[k].p f.p = false) := Lib.hid fun _ => by rw [← HX.out]; exact HB.out
            go_wp2_with fail
            go_quiet (fail)
            go_wp2_with fail
            go_meet
            exact ⟨k, q1 + nq, rfl, hkN, hbf, HF2, by simp⟩
          · have HF2 : Hid (∀ i (hi : i < L.length), i < k + 1 → befF L[i].p f.p = true) := Lib.hid fun i hi hik => by
              rcases Nat.lt_or_ge i k with h | h
              · exact hbf.out i hi h
              · obtain rfl : i = k := by omega
                rw [← HX.out]; exact HB.out
            go_wp2_with fail
            go_quiet (fail)
            go_wp2_with fail
            go_roundg (N - (k + 1))
            case measure => omega
            case rel => exact ⟨k + 1, by go_num, by omega, by omega, HF2, _, rfl⟩
        · have t1 : decide (k < N) = false := decide_eq_false hlt
          have HF2 : Hid (∀ hk : k < L.length, befF L[k].p f.p = false) := Lib.hid fun hk => absurd hk (by have := HL.out; omega)
          go_wp2_with fail
          go_quiet (fail)
          go_wp2_with fail
          go_meet
          exact ⟨k, q1 + nq, rfl, hkN, hbf, HF2, by simp⟩
  case rest =>
    obtain ⟨k, q1, rfl, hkN, hbf, hnb, hw⟩ := hcut
    obtain ⟨wb, hwb⟩ : ∃ wb, wb = wc := ⟨_, rfl⟩
    subst hwb
    have hbq := drB wa q1
    have HDB := Lib.hid (HDA.out.below hbq)
    have HBB := Lib.hid (HBA.out.trans (hbq.mono HBA.out.size))
    rw [← hw] at HDB HBB
    have c2' : wb.cell? ⟨y, 2, none⟩ = some (.slice A N c) := by rw [hw]; exact c2
    have p0' : wb.cell? ⟨w.heap.size, 0, none⟩ = some (.string f.p) := by rw [hw]; exact p0
    have p1' : wb.cell? ⟨w.heap.size, 1, none⟩ = some (.slice f.A f.n f.c) := by rw [hw]; exact p1
    have p2' : wb.cell? ⟨w.heap.size, 2, none⟩ = some (.int .i64 f.safe) := by rw [hw]; exact p2
    have hwl' : w.heap.size < wb.heap.size := World.block_lt_of_cell? _ _ p0'
    clear p0 p1 p2 c2 hw hbq hrow hN
    have hown := HDB.out.own
    rw [← HL.out] at hown
    have hcap := own_cap hown
    have HROWS := Lib.hid (Rf.of_own hown)
    have HO := Lib.hid (World.ownsRow_lit (base := wb.heap.size) (e := 80) (size := 3) wb #[] 0 (Nat.le_refl _) (Nat.zero_le _) rfl)
    have HRK := Lib.hid ((HROWS.out.cutk hkN hcap.1).below ((Below.refl wb.heap.size wb).alloc (Nat.le_refl _) (.cells #[] 80)))
    have hkc := Nat.le_trans hkN hcap.1
    have hyw : y < wb.heap.size := by omega
    clear hown
    go_upto_region 4 with fail
    go_cut [5] (fun v wx => ∃ (G1 : Option Addr) (c1 : Nat), v = .slice G1 (N - k) c1 ∧ Hid (wx.ownsRow wb.heap.size 80 3 (.slice G1 (N - k) c1) (N - k) (cellsF (L.drop k))) ∧ Hid (Below wb.heap.size wb wx))
    case first =>
      go_wp2_with (at_builtin; refine wpList_files rfl (.tmp 28) (.tmp 34) rfl wb.heap.size _ 0 [] rfl HO.out _ (N - k) _ (L.drop k) rfl HRK.out (by omega) (by simp) ?_; intro G1 c1 w1 ho1 hg1 _)
      all_goals
        rw [Nat.zero_add, List.nil_append] at ho1
        have HO1 := Lib.hid ho1
        have HB1 := Lib.hid (push0 ((Below.refl wb.heap.size wb).alloc (Nat.le_refl _) (.cells #[] 80)) (Nat.le_refl _) HO.out hg1)
        clear ho1 hg1
        go_wp2_with fail
        go_meet
        exact ⟨_, _, rfl, HO1, HB1⟩
    case rest =>
    obtain ⟨G1, c1, rfl, ho1, hb1⟩ := hcut
    obtain ⟨wd, hwd⟩ : ∃ wd, wd = wc := ⟨_, rfl⟩
    subst hwd
    have HDD := Lib.hid (HDB.out.below hb1.out)
    have HBD := Lib.hid (HBB.out.trans (hb1.out.mono HBB.out.size))
    have yd : wd.cell? ⟨y, 2, none⟩ = some (.slice A N c) := (hb1.out.cell (p := ⟨y, 2, none⟩) hyw).trans c2'
    have r0 : wd.cell? ⟨w.heap.size, 0, none⟩ = some (.string f.p) := (hb1.out.cell (p := ⟨w.heap.size, 0, none⟩) hwl').trans p0'
    have r1 : wd.cell? ⟨w.heap.size, 1, none⟩ = some (.slice f.A f.n f.c) := (hb1.out.cell (p := ⟨w.heap.size, 1, none⟩) hwl').trans p1'
    have r2 : wd.cell? ⟨w.heap.size, 2, none⟩ = some (.int .i64 f.safe) := (hb1.out.cell (p := ⟨w.heap.size, 2, none⟩) hwl').trans p2'
    have hwl2 : w.heap.size < wd.heap.size := World.block_lt_of_cell? _ _ r0
    have hyd : y < wd.heap.size := by omega
    have HR1 := Lib.hid (Rf.of_own ho1.out)
    have hrk1 := (HROWS.out.first hkN).below hb1.out
    obtain ⟨o0, ho0⟩ : ∃ o0, o0 = Obj.cells #[] 80 := ⟨_, rfl⟩
    obtain ⟨of, hof⟩ : ∃ of, of = Obj.cells #[.string f.p, .slice f.A f.n f.c, .int .i64 f.safe] 80 := ⟨_, rfl⟩
    -- the worlds that the orders lead through
    have hbA : Below wd.heap.size wd (wd.drew.alloc o0) := (Below.refl wd.heap.size wd).drew.alloc (Nat.le_refl _) o0
    have hbF : Below wd.heap.size wd (wd.drew.alloc of) := (Below.refl wd.heap.size wd).drew.alloc (Nat.le_refl _) of
    have hbAF : Below wd.heap.size wd ((wd.drew.alloc o0).alloc of) := hbA.alloc hbA.size of
    have hbFA : Below wd.heap.size wd ((wd.drew.alloc of).alloc o0) := hbF.alloc hbF.size o0
    have yA : (wd.alloc o0).cell? ⟨y, 2, none⟩ = some (.slice A N c) := (hbA.cell (p := ⟨y, 2, none⟩) hyd).trans yd
    have yF : (wd.alloc of).cell? ⟨y, 2, none⟩ = some (.slice A N c) := (hbF.cell (p := ⟨y, 2, none⟩) hyd).trans yd
    have yAF : ((wd.alloc o0).alloc of).cell? ⟨y, 2, none⟩ = some (.slice A N c) := (hbAF.cell (p := ⟨y, 2, none⟩) hyd).trans yd
    have yFA : ((wd.alloc of).alloc o0).cell? ⟨y, 2, none⟩ = some (.slice A N c) := (hbFA.cell (p := ⟨y, 2, none⟩) hyd).trans yd
    have a0 : (wd.alloc o0).cell? ⟨w.heap.size, 0, none⟩ = some (.string f.p) := (hbA.cell (p := ⟨w.heap.size, 0, none⟩) hwl2).trans r0
    have a1 : (wd.alloc o0).cell? ⟨w.heap.size, 1, none⟩ = some (.slice f.A f.n f.c) := (hbA.cell (p := ⟨w.heap.size, 1, none⟩) hwl2).trans r1
    have a2 : (wd.alloc o0).cell? ⟨w.heap.size, 2, none⟩ = some (.int .i64 f.safe) := (hbA.cell (p := ⟨w.heap.size, 2, none⟩) hwl2).trans r2
    have HOA : Hid ((wd.drew.alloc o0).ownsRow wd.heap.size 80 3 (.slice (some ⟨wd.heap.size, 0, none⟩) 0 0) 0 (cellsF [])) := by rw [ho0]; exact Lib.hid (World.ownsRow_lit wd.drew #[] 0 (Nat.le_refl _) (Nat.zero_le _) rfl)
    have HOAF : Hid (((wd.drew.alloc o0).alloc of).ownsRow wd.heap.size 80 3 (.slice (some ⟨wd.heap.size, 0, none⟩) 0 0) 0 (cellsF [])) := Lib.hid (HOA.out.alloc of)
    have hsF : (wd.drew.alloc of).heap.size = wd.heap.size + 1 := by simp
    have HOFA : Hid (((wd.drew.alloc of).alloc o0).ownsRow wd.heap.size 80 3 (.slice (some ⟨wd.heap.size + 1, 0, none⟩) 0 0) 0 (cellsF [])) := by
      rw [ho0, ← hsF]
      exact Lib.hid (World.ownsRow_lit (wd.drew.alloc of) #[] 0 (by simp) (Nat.zero_le _) rfl)
    have HKA := Lib.hid (hrk1.below hbA); have HKAF := Lib.hid (hrk1.below hbAF); have HKFA := Lib.hid (hrk1.below hbFA)
    have hsA : (wd.drew.alloc o0).heap.size = wd.heap.size + 1 := by simp
    have HFAF : Hid (Rf ((wd.drew.alloc o0).alloc of) (some ⟨wd.heap.size + 1, 0, none⟩) 1 [f]) := by rw [hof, ← hsA]; exact Lib.hid (Rf.lit _ f _ _)
    have HFFA : Hid (Rf ((wd.drew.alloc of).alloc o0) (some ⟨wd.heap.size, 0, none⟩) 1 [f]) := by
      have h1 : Rf (wd.drew.alloc of) (some ⟨wd.heap.size, 0, none⟩) 1 [f] := by rw [hof]; exact Rf.lit wd.drew f _ _
      exact Lib.hid (h1.below ((Below.refl _ _).alloc (Nat.le_refl _) o0))
    have HBA := Lib.hid hbA; have HBAF := Lib.hid hbAF; have HBFA := Lib.hid hbFA
    subst ho0 hof
    clear hbA hbF hbAF hbFA hrk1 hsF hsA HBA
    have hk0 : 0 + k ≤ 2000000000 := by omega
    have hk1 : k + 1 ≤ 2000000000 := by omega
    have hk2 : k + 1 + (N - k) ≤ 2000000000 := by omega
    have hzA : wd.heap.size ≤ (wd.drew.alloc (.cells #[] 80)).heap.size := by simp
    have hzAF : wd.heap.size ≤ ((wd.drew.alloc (.cells #[] 80)).alloc (.cells #[.string f.p, .slice f.A f.n f.c, .int .i64 f.safe] 80)).heap.size := by simp; omega
    have hzFA : wd.heap.size ≤ ((wd.drew.alloc (.cells #[.string f.p, .slice f.A f.n f.c, .int .i64 f.safe] 80)).alloc (.cells #[] 80)).heap.size := by simp; omega
    have HINS := Lib.hid (ins_at (f := f) (L := L) (k := k) (by rw [← HL.out]; exact hkN) (fun i hi hik => hbf.out i hi hik) (fun hk => hnb.out hk) HNEW.out)
    have HZ := Lib.hid (And.intro hzA (And.intro hzAF hzFA))
    have HNN : Hid (k + 1 + (N - k) = L.length + 1) := Lib.hid (by have := HL.out; omega)
    have HBW : Hid (base ≤ wd.heap.size) := Lib.hid (Nat.le_trans HD.out.hs HBD.out.size)
    have HTD : Hid (TurnR y (Value.slice A L.length c).ownBlock (L.length * 3) w wd) := Lib.hid (TurnR.of_below HBD.out)
    go_upto_region 5 with fail
    go_region_law (first
      | (refine step_files rfl (.tmp 37) (.tmp 43) rfl wd.heap.size (.slice (some ⟨wd.heap.size, 0, none⟩) 0 0) 0 [] (by kernel_rfl) HOA.out A k c (L.take k) (by kernel_rfl) HKA.out hk0 HZ.out.1 ?_
         intro G3 c3 w3 ho3 hg3 _
         rw [Nat.zero_add, List.nil_append] at ho3
         have HO3 := Lib.hid ho3
         have HB3 := Lib.hid (push0 ((Below.refl wd.heap.size wd).drew.alloc (Nat.le_refl _) (.cells #[] 80)) (Nat.le_refl _) HOA.out hg3)
         have HO3F := Lib.hid (HO3.out.alloc (.cells #[.string f.p, .slice f.A f.n f.c, .int .i64 f.safe] 80))
         have HF3F := Lib.hid (Rf.lit w3 f 80 (0, 0))
         have HB3F := Lib.hid (HB3.out.alloc HB3.out.size (.cells #[.string f.p, .slice f.A f.n f.c, .int .i64 f.safe] 80))
         have y3 : w3.cell? ⟨y, 2, none⟩ = some (.slice A N c) := (HB3.out.cell (p := ⟨y, 2, none⟩) hyd).trans yd
         have s0 : w3.cell? ⟨w.heap.size, 0, none⟩ = some (.string f.p) := (HB3.out.cell (p := ⟨w.heap.size, 0, none⟩) hwl2).trans r0
         have s1 : w3.cell? ⟨w.heap.size, 1, none⟩ = some (.slice f.A f.n f.c) := (HB3.out.cell (p := ⟨w.heap.size, 1, none⟩) hwl2).trans r1
         have s2 : w3.cell? ⟨w.heap.size, 2, none⟩ = some (.int .i64 f.safe) := (HB3.out.cell (p := ⟨w.heap.size, 2, none⟩) hwl2).trans r2
         have hz3 := HB3.out.size
         clear ho3 hg3)
      | (refine step_files rfl (.tmp 37) (.tmp 43) rfl wd.heap.size (.slice (some ⟨wd.heap.size, 0, none⟩) 0 0) 0 [] (by kernel_rfl) HOAF.out A k c (L.take k) (by kernel_rfl) HKAF.out hk0 HZ.out.2.1 ?_
         intro G3 c3 w3 ho3 hg3 _
         rw [Nat.zero_add, List.nil_append] at ho3
         have HO3 := Lib.hid ho3
         have HB3 := Lib.hid (push0 HBAF.out (Nat.le_refl _) HOAF.out hg3)
         have HF3 : Hid (Rf w3 (some ⟨wd.heap.size + 1, 0, none⟩) 1 [f]) := Lib.hid (Rd.grown HFAF.out hg3 (fun g b o h1 h2 => by have h1 : some wd.heap.size = some g := h1; injection h1 with h1; injection h2 with h2; injection h2 with h2 _; omega))
         have y3 : w3.cell? ⟨y, 2, none⟩ = some (.slice A N c) := (HB3.out.cell (p := ⟨y, 2, none⟩) hyd).trans yd
         have s0 : w3.cell? ⟨w.heap.size, 0, none⟩ = some (.string f.p) := (HB3.out.cell (p := ⟨w.heap.size, 0, none⟩) hwl2).trans r0
         have s1 : w3.cell? ⟨w.heap.size, 1, none⟩ = some (.slice f.A f.n f.c) := (HB3.out.cell (p := ⟨w.heap.size, 1, none⟩) hwl2).trans r1
         have s2 : w3.cell? ⟨w.heap.size, 2, none⟩ = some (.int .i64 f.safe) := (HB3.out.cell (p := ⟨w.heap.size, 2, none⟩) hwl2).trans r2
         have hz3 := HB3.out.size
         clear ho3 hg3)
      | (refine step_files rfl (.tmp 37) (.tmp 43) rfl wd.heap.size (.slice (some ⟨wd.heap.size + 1, 0, none⟩) 0 0) 0 [] (by kernel_rfl) HOFA.out A k c (L.take k) (by kernel_rfl) HKFA.out hk0 HZ.out.2.2 ?_
         intro G3 c3 w3 ho3 hg3 _
         rw [Nat.zero_add, List.nil_append] at ho3
         have HO3 := Lib.hid ho3
         have HB3 := Lib.hid (push0 HBFA.out (Nat.le_refl _) HOFA.out hg3)
         have HF3 : Hid (Rf w3 (some ⟨wd.heap.size, 0, none⟩) 1 [f]) := Lib.hid (Rd.grown HFFA.out hg3 (fun g b o h1 h2 => by have h1 : some (wd.heap.size + 1) = some g := h1; injection h1 with h1; injection h2 with h2; injection h2 with h2 _; omega))
         have y3 : w3.cell? ⟨y, 2, none⟩ = some (.slice A N c) := (HB3.out.cell (p := ⟨y, 2, none⟩) hyd).trans yd
         have s0 : w3.cell? ⟨w.heap.size, 0, none⟩ = some (.string f.p) := (HB3.out.cell (p := ⟨w.heap.size, 0, none⟩) hwl2).trans r0
         have s1 : w3.cell? ⟨w.heap.size, 1, none⟩ = some (.slice f.A f.n f.c) := (HB3.out.cell (p := ⟨w.heap.size, 1, none⟩) hwl2).trans r1
         have s2 : w3.cell? ⟨w.heap.size, 2, none⟩ = some (.int .i64 f.safe) := (HB3.out.cell (p := ⟨w.heap.size, 2, none⟩) hwl2).trans r2
         have hz3 := HB3.out.size
         clear ho3 hg3)
      | (refine step_files rfl (.tmp 44) (.tmp 46) rfl wd.heap.size (.slice G3 k c3) k (L.take k) (by kernel_rfl) HO3.out (some ⟨wd.heap.size + 1, 0, none⟩) 1 1 [f] (by kernel_rfl) HF3.out hk1 HB3.out.size ?_
         intro G4 c4 w4 ho4 hg4 _
         have HO4 := Lib.hid ho4
         have HB4 := Lib.hid (push0 HB3.out (Nat.le_refl _) HO3.out hg4)
         have HR4 := Lib.hid (HR1.out.below HB4.out)
         clear ho4 hg4)
      | (refine step_files rfl (.tmp 44) (.tmp 46) rfl wd.heap.size (.slice G3 k c3) k (L.take k) (by kernel_rfl) HO3.out (some ⟨wd.heap.size, 0, none⟩) 1 1 [f] (by kernel_rfl) HF3.out hk1 HB3.out.size ?_
         intro G4 c4 w4 ho4 hg4 _
         have HO4 := Lib.hid ho4
         have HB4 := Lib.hid (push0 HB3.out (Nat.le_refl _) HO3.out hg4)
         have HR4 := Lib.hid (HR1.out.below HB4.out)
         clear ho4 hg4)
      | (refine step_files rfl (.tmp 44) (.tmp 46) rfl wd.heap.size (.slice G3 k c3) k (L.take k) (by kernel_rfl) HO3F.out (some ⟨w3.heap.size, 0, none⟩) 1 1 [f] (by kernel_rfl) HF3F.out hk1 HB3F.out.size ?_
         intro G4 c4 w4 ho4 hg4 _
         have HO4 := Lib.hid ho4
         have HB4 := Lib.hid (push0 HB3F.out (Nat.le_refl _) HO3F.out hg4)
         have HR4 := Lib.hid (HR1.out.below HB4.out)
         clear ho4 hg4)
      | (refine step_files rfl (.tmp 47) (.tmp 48) rfl wd.heap.size (.slice G4 (k + 1) c4) (k + 1) (L.take k ++ [f]) (by kernel_rfl) HO4.out G1 (N - k) c1 (L.drop k) (by kernel_rfl) HR4.out hk2 HB4.out.size ?_
         intro G5 c5 w5 ho5 hg5 _
         have HO5 := Lib.hid ho5
         have HB5 := Lib.hid (push0 HB4.out (Nat.le_refl _) HO4.out hg5)
         have HD5 := Lib.hid (HDD.out.below HB5.out)
         have y5 : w5.cell? ⟨y, 2, none⟩ = some (.slice A N c) := (HB5.out.cell (p := ⟨y, 2, none⟩) hyd).trans yd
         have f5 := HD5.out.fr 2
         clear ho5 hg5))
    all_goals
      go_wp2_with fail
      go_returns
      exact add_end HD5.out HO5.out HINS.out HNN.out HBW.out hyd (HF.out.below (HBD.out.trans (HB5.out.mono HBD.out.size))) HNEW.out (HTD.out.trans (TurnR.of_below HB5.out))
end Go.Proofs.YtekdcnlbdgikoaaDoor

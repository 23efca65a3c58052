/- Joined texts: RfM. Each has its own head line. No condition beyond those that its theorems state. -/
import Derived.Test.YtekdcnlbdgikoaaDoorJ34
import Derived.Test.YtekdcnlbdgikoaaDoorJ43
import Derived.Test.YtekdcnlbdgikoaaDoorJ22
set_option linter.unusedVariables false

/- The reference's disk: Move. -/
namespace Go.Proofs.YtekdcnlbdgikoaaDoor
open Go.RowKit

theorem rest_nil {p d : ByteArray} (h : underB p d = true) (h2 : (restB p d).toList.isEmpty = true) : p = d := by
  rw [under_eq h]
  have : restB p d = ⟨#[]⟩ := by
    refine bytes_ext ?_
    rw [ByteArray.toList_eq, List.isEmpty_iff] at h2
    rw [h2]
  rw [this]
  exact ByteArray.append_empty
theorem under_self (d : ByteArray) : underB d d = true := by
  have h := rest_new d ⟨#[]⟩
  have e : d ++ (⟨#[]⟩ : ByteArray) = d := ByteArray.append_empty
  rw [e] at h
  unfold underB
  rw [h]
  have : Lib.hasPrefix d.data.toList d.data.toList = true := by
    unfold Lib.hasPrefix
    exact List.isPrefixOf_iff_prefix.2 (List.prefix_refl _)
  rw [this]
  simp
/-- A path is another one, or in it. -/
theorem under_or (p d : ByteArray) : underB p d = (decide (p = d) || belowB p d) := by
  by_cases h : p = d
  · subst h
    rw [under_self]; simp
  · rw [decide_eq_false h, Bool.false_or]
    unfold belowB
    cases hu : underB p d with
    | false => rfl
    | true =>
      cases h2 : (restB p d).toList.isEmpty with
      | false => rfl
      | true => exact absurd (rest_nil hu h2) h
theorem any_step {L : List Fl} {k : Nat} (hk : k < L.length) (P : Fl → Bool) : (L.take (k + 1)).any P = ((L.take k).any P || P L[k]) := by
  rw [List.take_succ_eq_append_getElem hk, List.any_append]
  simp

section
variable (frm dest : ByteArray)
/-- A file, moved. -/
def mvF (f : Fl) : Fl := stF frm dest (fun _ => false) f
def mvK (L : List Fl) (j : Nat) : List Fl := buildF ((L.take j).map (mvF frm dest)).reverse
variable {frm dest : ByteArray} {L : List Fl}
theorem mv_no {f : Fl} (h : underB f.p frm = false) : mvF frm dest f = f := by unfold mvF stF; rw [h]; rfl
theorem mv_yes {f : Fl} (h : underB f.p frm = true) : mvF frm dest f = movF frm dest f := by unfold mvF stF; rw [h]; rfl
theorem mvK_step {j : Nat} (hj : j < L.length) : mvK frm dest L (j + 1) = insF (mvF frm dest L[j]) (mvK frm dest L j) := by
  unfold mvK
  rw [List.take_succ_eq_append_getElem hj, List.map_append, List.reverse_append]
  rfl
theorem mvK_len {j : Nat} (hj : j ≤ L.length) : (mvK frm dest L j).length = j := by
  unfold mvK
  rw [build_len, List.length_reverse, List.length_map, List.length_take, Nat.min_eq_left hj]
theorem mvK_new (hs : SortF L) (hno : ∀ f ∈ L, underB f.p dest = false) {j : Nat} (hj : j < L.length) : ∀ g ∈ mvK frm dest L j, g.p ≠ (mvF frm dest L[j]).p := fun g hg => by
  unfold mvK at hg
  rw [mem_build, List.mem_reverse, List.mem_map] at hg
  obtain ⟨f, hf, rfl⟩ := hg
  obtain ⟨i, hi, rfl⟩ := List.getElem_of_mem hf
  have hi2 : i < j := by rw [List.length_take] at hi; omega
  have := List.pairwise_iff_getElem.1 (st_distinct (frm := frm) (dest := dest) (left := fun _ => false) hs hno) i j (by simp; omega) (by simpa using hj) hi2
  rw [List.getElem_map, List.getElem_map] at this
  rw [List.getElem_take]
  exact this
theorem mvK_end (hs : SortF L) (hno : ∀ f ∈ L, underB f.p dest = false) : absF (mvK frm dest L L.length) = buildM ((absF L).map (renM frm dest)) := by
  rw [← files_end (frm := frm) (dest := dest) (left := fun _ => false) (L := L) (fun _ => rfl)]
  congr 1
  have hd := st_distinct (frm := frm) (dest := dest) (left := fun _ => false) hs hno
  unfold mvK filesAt
  rw [List.take_length]
  refine sort_ext (sort_build (List.pairwise_reverse.2 (hd.imp fun h e => h e.symm))) (sort_build hd) fun f => ?_
  rw [mem_build, mem_build, List.mem_reverse]
  rfl
theorem rest_extract {p d : ByteArray} (h : underB p d = true) : p.extract d.size p.size = restB p d := by
  refine bytes_ext ?_
  have e := under_eq h
  have hz : p.size = d.size + (restB p d).size := by
    have := congrArg ByteArray.size e
    rw [ByteArray.size_append] at this
    exact this
  rw [ByteArray.data_extract, Array.toList_extract, List.extract_eq_take_drop]
  have e2 : p.data.toList = d.data.toList ++ (restB p d).data.toList := by
    have := congrArg (fun s : ByteArray => s.data.toList) e
    rw [app_list] at this
    exact this
  rw [e2, size_list d, List.drop_left, List.take_of_length_le]
  rw [hz, ← size_list, ← size_list]
  omega
end

set_option maxRecDepth 100000 in
set_option maxHeartbeats 4000000 in
theorem rMove_any (w : World) (base y : Nat) (q lf : Int) (A : Option Addr) (c : Nat) (L : List Fl) (h : Rk w base y q lf A c L) (hl : -9223372036854775808 ≤ lf ∧ lf < 9223372036854775808) (hlen : L.length < 1000000) (hps : ∀ f ∈ L, f.p.size ≤ 60)
    (frm dest : ByteArray) (hfr : frm.size ≤ reachBytes) (hds : dest.size ≤ reachBytes) (er : Int) (M' : List Mf) (hc : moveM lf (absF L) frm dest = (er, M')) :
    Calls Tryd.prog 38 #[.pointer (some ⟨y, 0, none⟩), .string frm, .string dest] w fun e w' => ∃ L', absF L' = M' ∧ RkOut w base y q A c L (burnL lf) L' (.int .i64 er) e w' := by
  have HD := Lib.hid h
  have hrb := reachBytes_lt
  have HFR := Lib.hid hfr; have HDS := Lib.hid hds; have HPS := Lib.hid hps
  have hdm : dest.size ≤ maxLen := by unfold maxLen; omega
  unfold moveM at hc
  clear hps h
  by_cases h0 : lf = 0
  · rw [if_pos h0] at hc
    injection hc with h1 h2
    have HR := Lib.hid (And.intro h1 h2)
    have HL := Lib.hid (show decide (lf = 0) = true from decide_eq_true h0)
    clear h0 h1 h2
    go_enter Tryd.func38, Tryd.ntmps38
    go_wp2_with fail
    refine (rburnt_any _ _ _ _ _ _ _ _ HD.out hl).mono ?_; rintro e w1 ⟨rfl, hd1, ht1, hsz1⟩
    rw [HL.out]
    have HD1 := Lib.hid hd1; have HT1 := Lib.hid ht1
    clear hd1 ht1 hsz1
    go_wp2_with fail
    go_ret
    obtain ⟨rfl, rfl⟩ := HR.out
    exact ⟨L, rfl, rfl, ⟨A, c, HD1.out⟩, HT1.out⟩
  · rw [if_neg h0] at hc
    have HL := Lib.hid (show decide (lf = 0) = false from decide_eq_false h0)
    clear h0
    obtain ⟨bp, hbp⟩ : ∃ bp, pathD dest = bp := ⟨_, rfl⟩
    rw [hbp] at hc
    cases bp
    · rw [if_pos rfl] at hc
      injection hc with h1 h2
      have HR := Lib.hid (And.intro h1 h2)
      have HBP := Lib.hid hbp
      clear h1 h2 hbp
      go_enter Tryd.func38, Tryd.ntmps38
      go_wp2_with fail
      refine (rburnt_any _ _ _ _ _ _ _ _ HD.out hl).mono ?_; rintro e w1 ⟨rfl, hd1, ht1, hsz1⟩
      rw [HL.out]
      have HD1 := Lib.hid hd1; have HT1 := Lib.hid ht1
      clear hd1 ht1 hsz1
      go_wp2_with fail
      refine (rPath_any _ dest hdm).mono ?_; rintro e w' ⟨rfl, hw'⟩
      rw [hw', HBP.out]
      clear hw' w'
      go_wp2_with fail
      go_ret
      obtain ⟨rfl, rfl⟩ := HR.out
      exact ⟨L, rfl, rfl, ⟨A, c, HD1.out⟩, HT1.out⟩
    · rw [if_neg (by simp)] at hc
      have hto := path_le hbp
      have HBP := Lib.hid hbp
      rw [any_abs L (fun p => underB p frm), any_abs L (fun p => underB p dest), all_abs L (fun p => !underB p frm || pathD (newp p frm dest))] at hc
      have HC := Lib.hid hc
      clear hc hbp
      obtain ⟨N, hN⟩ : ∃ N, N = L.length := ⟨_, rfl⟩
      have HNL := Lib.hid hN
      clear hN
      go_enter Tryd.func38, Tryd.ntmps38
      go_wp2_with fail
      refine (rburnt_any _ _ _ _ _ _ _ _ HD.out hl).mono ?_; rintro e w1 ⟨rfl, hd1, ht1, hsz1⟩
      rw [HL.out]
      have HD1 := Lib.hid hd1; have HT1 := Lib.hid ht1
      have hyl := hd1.lt
      have y2 := hd1.c2
      rw [← HNL.out] at y2
      have hrow := hd1.addr
      clear hd1 ht1 hsz1
      go_wp2_with fail
      refine (rPath_any _ dest hdm).mono ?_; rintro e w' ⟨rfl, hw'⟩
      rw [hw', HBP.out]
      clear hw' w'
      go_wp2_with fail
      go_loopg [9, 10, 11] N (fun gg v9 v10 v11 wr => ∃ (k : Nat) (bs bt : Bool), v9 = .bool bs ∧ v10 = .bool bt ∧ v11 = .int .i64 k ∧ k ≤ N ∧ N - k ≤ gg ∧ Hid (bs = (L.take k).any fun f => underB f.p frm) ∧ Hid (bt = (L.take k).any fun f => underB f.p dest) ∧ wr = w1)
      case atStart => exact ⟨0, false, false, rfl, rfl, rfl, by omega, by omega, Lib.hid rfl, Lib.hid rfl, rfl⟩
      case round =>
        obtain ⟨k, bs, bt, rfl, rfl, rfl, hkN, hgg, hbs, hbt, rfl⟩ := hrel
        by_cases hlt : k < N
        · have t1 : decide (k < N) = true := decide_eq_true hlt
          have hk : k < L.length := by rw [← HNL.out]; exact hlt
          rcases hrow with rfl | ⟨_, g, rfl, hgl, hcells⟩
          · exact absurd hk (Nat.not_lt_zero _)
          obtain ⟨k0, _, _⟩ := hcells k hk
          have HX1 := Lib.hid (any_step hk (fun f => underB f.p frm))
          have HX2 := Lib.hid (any_step hk (fun f => underB f.p dest))
          have hx60 := HPS.out L[k] (List.getElem_mem hk)
          obtain ⟨x, hx⟩ : ∃ x, x = L[k].p := ⟨_, rfl⟩
          rw [← hx] at k0 hx60
          have hxm : x.size ≤ maxLen := by unfold maxLen; omega
          have HX := Lib.hid hx
          have HXM := Lib.hid hxm
          have hu1 := under_or x frm
          have hu2 := under_or x dest
          obtain ⟨e1, he1⟩ : ∃ e1, decide (x = frm) = e1 := ⟨_, rfl⟩
          obtain ⟨e2, he2⟩ : ∃ e2, decide (x = dest) = e2 := ⟨_, rfl⟩
          have q1 : (x.toList == frm.toList) = e1 := (str_beq x frm).trans he1
          have q2 : (x.toList == dest.toList) = e2 := (str_beq x dest).trans he2
          rw [he1] at hu1
          rw [he2] at hu2
          have HU1 := Lib.hid hu1
          have HU2 := Lib.hid hu2
          clear hu1 hu2 he1 he2 hcells hx hx60 hxm
          go_upto_region 13 with fail
          go_cut [9] (fun v wx => v = .bool (bs || underB x frm) ∧ wx = wr)
          case first =>
            cases bs <;> cases e1
            all_goals
              go_wp2_with (go_at_call 61; refine (in_any _ x frm HXM.out HFR.out).mono ?_; rintro e w9 ⟨rfl, hw9⟩; rw [hw9]; clear hw9 w9)
              go_meet
              exact ⟨by rw [HU1.out]; simp, rfl⟩
          case rest =>
          obtain ⟨rfl, hwc⟩ := hcut
          rw [hwc]
          clear hwc
          cases bt <;> cases e2
          all_goals
            go_wp2_with (go_at_call 61; refine (in_any _ x dest HXM.out HDS.out).mono ?_; rintro e w9 ⟨rfl, hw9⟩; rw [hw9]; clear hw9 w9)
            go_roundg (N - (k + 1))
            case measure => omega
            case rel => exact ⟨k + 1, _, _, rfl, rfl, by go_num, by omega, by omega, Lib.hid (by rw [HX1.out, ← hbs.out, ← HX.out]), Lib.hid (by rw [HX2.out, ← hbt.out, ← HX.out, HU2.out]; simp), rfl⟩
        · have t1 : decide (k < N) = false := decide_eq_false hlt
          obtain rfl : k = N := by omega
          have hbs1 : bs = L.any fun f => underB f.p frm := by rw [hbs.out, List.take_of_length_le (by rw [HNL.out]; exact Nat.le_refl _)]
          have hbt1 : bt = L.any fun f => underB f.p dest := by rw [hbt.out, List.take_of_length_le (by rw [HNL.out]; exact Nat.le_refl _)]
          have hc := HC.out
          rw [← hbs1, ← hbt1] at hc
          have HBT := Lib.hid hbt1
          clear hbs hbt hbs1 hbt1 HC
          cases bs
          · rw [if_pos rfl] at hc
            injection hc with h1 h2
            have HR := Lib.hid (And.intro h1 h2)
            clear h1 h2
            go_wp2_with fail
            go_ret
            obtain ⟨rfl, rfl⟩ := HR.out
            exact ⟨L, rfl, rfl, ⟨A, c, HD1.out⟩, HT1.out⟩
          · rw [if_neg (by simp)] at hc
            cases bt
            · rw [if_neg (by simp)] at hc
              have HC := Lib.hid hc
              clear hc
              go_wp2_with fail
              refine (in_any _ dest frm hdm HFR.out).mono ?_; rintro e w9 ⟨rfl, hw9⟩
              rw [hw9]
              clear hw9 w9
              obtain ⟨bb, hbb⟩ : ∃ bb, belowB dest frm = bb := ⟨_, rfl⟩
              have hbb2 : (underB dest frm && !(restB dest frm).toList.isEmpty) = bb := hbb
              have hc := HC.out
              rw [hbb2] at hc
              rw [hbb]
              have HBB := Lib.hid hbb
              clear hbb hbb2 HC
              cases bb
              · rw [Bool.false_or] at hc
                have HC := Lib.hid hc
                clear hc
                have y0 : wr.cell? ⟨y, 0, none⟩ = some (.int .i64 q) := HD1.out.c0
                have y1 : wr.cell? ⟨y, 1, none⟩ = some (.int .i64 (burnL lf)) := HD1.out.c1
                have y0' : wr.drew.cell? ⟨y, 0, none⟩ = some (.int .i64 q) := y0
                have y1' : wr.drew.cell? ⟨y, 1, none⟩ = some (.int .i64 (burnL lf)) := y1
                go_wp2_with fail
                go_region
                go_wp2_with fail
                obtain ⟨ob, hob⟩ : ∃ ob, ob = Obj.cells #[.int .i64 q, .int .i64 (burnL lf), .slice none 0 0] 71 := ⟨_, rfl⟩
                have hbo : Below wr.heap.size wr (wr.alloc ob).drew := (Below.refl wr.heap.size wr).alloc (Nat.le_refl _) ob |>.drew
                have HBO := Lib.hid hbo
                have HRN : Hid (Rk (wr.alloc ob).drew wr.heap.size wr.heap.size q (burnL lf) none 0 []) := Lib.hid ⟨by rw [hob]; exact IdiomRange_new wr _, World.ownsRow_nil _ _ _ _, fun f hf => absurd hf List.not_mem_nil, List.Pairwise.nil, Nat.le_refl _, by simp⟩
                rw [← hob]
                have HNO : Hid (∀ f ∈ L, underB f.p dest = false) := Lib.hid fun f hf => by
                  have h := HBT.out
                  cases hu : underB f.p dest with
                  | false => rfl
                  | true =>
                    have : (L.any fun f => underB f.p dest) = true := List.any_eq_true.2 ⟨f, hf, hu⟩
                    rw [this] at h; cases h
                have HSO := Lib.hid HD1.out.sort
                clear y0 y1 y0' y1' hob hbo
                obtain ⟨wt, hwt⟩ : ∃ wt, wt = wr := ⟨_, rfl⟩
                subst hwt
                go_loopg [15] k (fun gg v wv => ∃ (j : Nat) (A2 : Option Addr) (c2 : Nat), v = .int .i64 j ∧ j ≤ k ∧ k - j ≤ gg ∧ Hid (Rk wv wt.heap.size wt.heap.size q (burnL lf) A2 c2 (mvK frm dest L j)) ∧ Hid (Below wt.heap.size wt wv) ∧ Hid ((L.take j).all (fun f => !underB f.p frm || pathD (newp f.p frm dest)) = true))
                case atStart => exact ⟨0, none, 0, rfl, by omega, by omega, HRN, HBO, Lib.hid rfl⟩
                case round =>
                  obtain ⟨j, A2, c2, rfl, hjk, hgg2, hrn, hbv, hall⟩ := hrel
                  have y3 : wr.cell? ⟨y, 2, none⟩ = some (.slice A k c) := (hbv.out.cell (p := ⟨y, 2, none⟩) hyl).trans y2
                  by_cases hlt2 : j < k
                  · have t2 : decide (j < k) = true := decide_eq_true hlt2
                    have hj : j < L.length := by rw [← HNL.out]; exact hlt2
                    rcases hrow with hnil | ⟨_, g, hAg, hgl, hcells⟩
                    · rw [hnil] at hj; exact absurd hj (Nat.not_lt_zero _)
                    subst hAg
                    obtain ⟨k0, k1, k2⟩ := hcells j hj
                    have m0 := (hbv.out.cell (p := ⟨g, j * 3, none⟩) hgl).trans k0
                    have m1 := (hbv.out.cell (p := ⟨g, j * 3 + 1, none⟩) hgl).trans k1
                    have m2 := (hbv.out.cell (p := ⟨g, j * 3 + 2, none⟩) hgl).trans k2
                    have hok := (HD1.out.row _ (List.getElem_mem hj)).below hbv.out
                    have hnew := mvK_new (frm := frm) (dest := dest) HSO.out HNO.out hj
                    have hstep := mvK_step (frm := frm) (dest := dest) hj
                    have hall1 : ((L.take (j + 1)).all (fun f => !underB f.p frm || pathD (newp f.p frm dest))) = ((L.take j).all (fun f => !underB f.p frm || pathD (newp f.p frm dest)) && (!underB L[j].p frm || pathD (newp L[j].p frm dest))) := by
                      rw [List.take_succ_eq_append_getElem hj, List.all_append]; simp
                    rw [hall.out, Bool.true_and] at hall1
                    have hx60 := HPS.out _ (List.getElem_mem hj)
                    have hmem := List.getElem_mem hj
                    obtain ⟨f, hf⟩ : ∃ f, f = L[j] := ⟨_, rfl⟩
                    rw [← hf] at m0 m1 m2 hok hnew hstep hall1 hx60 hmem
                    have hxm : f.p.size ≤ maxLen := by unfold maxLen; omega
                    have hu1 := under_or f.p frm
                    obtain ⟨e1, he1⟩ : ∃ e1, decide (f.p = frm) = e1 := ⟨_, rfl⟩
                    have q1 : (f.p.toList == frm.toList) = e1 := (str_beq f.p frm).trans he1
                    rw [he1] at hu1
                    have hkl := mvK_len (frm := frm) (dest := dest) (L := L) (j := j) (by omega)
                    have HNEW := Lib.hid hnew; have HSTEP := Lib.hid hstep; have HALL1 := Lib.hid hall1; have HXM := Lib.hid hxm; have HU1 := Lib.hid hu1; have HKL := Lib.hid hkl; have HOK := Lib.hid hok; have HMEM := Lib.hid hmem
                    clear hnew hstep hall1 hu1 hkl hok hcells k0 k1 k2 hf he1 hmem
                    go_upto_region 27 with fail
                    obtain ⟨oc, hoc⟩ : ∃ oc, oc = Obj.cells #[.string f.p, .slice f.A f.n f.c, .int .i64 f.safe] 80 := ⟨_, rfl⟩
                    rw [← hoc]
                    obtain ⟨wa, hwa⟩ : ∃ wa, wa = wr.alloc oc := ⟨_, rfl⟩
                    have hba : Below wr.heap.size wr wa := hwa ▸ (Below.refl wr.heap.size wr).alloc (Nat.le_refl _) oc
                    have hnb : wa.heap[wr.heap.size]? = some oc := hwa ▸ IdiomRange_new wr oc
                    rw [hoc] at hnb
                    have p0 : wa.cell? ⟨wr.heap.size, 0, none⟩ = some (.string f.p) := by rw [cell_of_blk hnb]; rfl
                    have p1 : wa.cell? ⟨wr.heap.size, 1, none⟩ = some (.slice f.A f.n f.c) := by rw [cell_of_blk hnb]; rfl
                    have p2 : wa.cell? ⟨wr.heap.size, 2, none⟩ = some (.int .i64 f.safe) := by rw [cell_of_blk hnb]; rfl
                    have fz : wa.frozen? ⟨wr.heap.size, 0, none⟩ = false := by simp [World.frozen?, hnb]
                    have HRA := Lib.hid (hrn.out.below hba)
                    have HBA := Lib.hid (hbv.out.trans (hba.mono hbv.out.size))
                    have HOKA := Lib.hid (HOK.out.below hba)
                    have HBAR := Lib.hid hba
                    have hzt : wt.heap.size ≤ wr.heap.size := hbv.out.size
                    have hza : wr.heap.size < wa.heap.size := World.block_lt_of_cell? _ _ p0
                    rw [← hwa]
                    clear hwa hoc hba hnb
                    obtain ⟨u, hu⟩ : ∃ u, underB f.p frm = u := ⟨_, rfl⟩
                    have HU := Lib.hid hu
                    rw [hu] at HU1
                    clear hu
                    cases u
                    · have he1 : e1 = false := by
                        have := HU1.out
                        cases e1 with
                        | false => rfl
                        | true => simp at this
                      have hbl : belowB f.p frm = false := by
                        have := HU1.out
                        rw [he1] at this; simpa using this.symm
                      have HBL := Lib.hid hbl
                      subst he1
                      clear hbl
                      go_wp2_with (go_at_call 61; refine (in_any _ f.p frm HXM.out HFR.out).mono ?_; rintro e w9 ⟨rfl, hw9⟩; rw [hw9, HBL.out]; clear hw9 w9)
                      refine (add_any wa _ _ _ _ _ _ _ HRA.out (by rw [HKL.out]; omega) f HOKA.out (by rw [← mv_no (dest := dest) HU.out]; exact HNEW.out)).mono ?_
                      rintro e wz ⟨rfl, ⟨A3, c3, hrz⟩, htz⟩
                      have HBZ := Lib.hid (htz.below HBA.out (Nat.le_refl _) (fun k hk => (HRA.out.own.lt k hk).1) (by omega))
                      have HRZ := Lib.hid hrz
                      clear hrz htz
                      go_wp2_with fail
                      go_roundg (k - (j + 1))
                      case measure => omega
                      case rel => exact ⟨j + 1, A3, c3, by go_num, by omega, by omega, Lib.hid (by rw [HSTEP.out, mv_no HU.out]; exact HRZ.out), HBZ, Lib.hid (by rw [HALL1.out, HU.out]; rfl)⟩
                    · have hrs := rest_extract HU.out
                      have hls : frm.size ≤ f.p.size := by
                        have := congrArg ByteArray.size (under_eq HU.out)
                        rw [ByteArray.size_append] at this
                        omega
                      have hrl := rest_le f.p frm
                      have happ : dest.size + (f.p.extract frm.size f.p.size).size ≤ maxLen := by rw [hrs]; unfold maxLen; omega
                      have hnm : (newp f.p frm dest).size ≤ maxLen := by have := new_size f.p frm dest; unfold maxLen; omega
                      have hnp : dest ++ f.p.extract frm.size f.p.size = newp f.p frm dest := by rw [hrs]; rfl
                      have HNM := Lib.hid hnm
                      have HNP := Lib.hid hnp
                      obtain ⟨np, hnpd⟩ : ∃ np, np = newp f.p frm dest := ⟨_, rfl⟩
                      obtain ⟨bq, hbq⟩ : ∃ bq, pathD (newp f.p frm dest) = bq := ⟨_, rfl⟩
                      have HBQ := Lib.hid hbq
                      rw [← hnpd] at HNM HNP HBQ
                      have HNPD := Lib.hid hnpd
                      clear hrs hnm hnp hnpd hbq hrl
                      have HBL : Hid (e1 = false → belowB f.p frm = true) := Lib.hid fun e => by
                        have := HU1.out
                        rw [e] at this; simpa using this.symm
                      clear HU1
                      cases e1
                      all_goals
                        go_upto_region 28 with (go_at_call 61; refine (in_any _ f.p frm HXM.out HFR.out).mono ?_; rintro e w9 ⟨rfl, hw9⟩; rw [hw9, HBL.out rfl]; clear hw9 w9)
                        go_upto_region 29 with fail
                        rw [HNP.out]
                        obtain ⟨wb, hwb⟩ : ∃ wb, wb = wa.setCell ⟨wr.heap.size, 0, none⟩ (.string np) := ⟨_, rfl⟩
                        have n0 : wb.cell? ⟨wr.heap.size, 0, none⟩ = some (.string np) := hwb ▸ World.cell?_setCell_same wa _ _ p0
                        have n1 : wb.cell? ⟨wr.heap.size, 1, none⟩ = some (.slice f.A f.n f.c) := hwb ▸ (World.cell?_setCell_other wa _ _ _ (by simp)).trans p1
                        have n2 : wb.cell? ⟨wr.heap.size, 2, none⟩ = some (.int .i64 f.safe) := hwb ▸ (World.cell?_setCell_other wa _ _ _ (by simp)).trans p2
                        have hbb : Below wr.heap.size wr wb := hwb ▸ HBAR.out.setCell (p := ⟨wr.heap.size, 0, none⟩) (Nat.le_refl _) _
                        have HRB := Lib.hid (hrn.out.below hbb)
                        have HBB2 := Lib.hid (hbv.out.trans (hbb.mono hbv.out.size))
                        have HOKB := Lib.hid (HOK.out.below hbb)
                        have hzb : wr.heap.size < wb.heap.size := World.block_lt_of_cell? _ _ n0
                        rw [← hwb]
                        clear hwb hbb p0 p1 p2 fz
                        go_wp2_with fail
                        refine (rPath_any _ np HNM.out).mono ?_; rintro e w9 ⟨rfl, hw9⟩
                        rw [hw9, HBQ.out]
                        clear hw9 w9
                        cases bq
                        · have hc := HC.out
                          have hna : (L.all fun f => !underB f.p frm || pathD (newp f.p frm dest)) = false := by
                            rw [List.all_eq_false]
                            exact ⟨f, HMEM.out, by rw [HU.out, ← HNPD.out, HBQ.out]; simp⟩
                          rw [hna, if_pos (show (!false) = true from rfl)] at hc
                          injection hc with h1 h2
                          have HR := Lib.hid (And.intro h1 h2)
                          clear h1 h2 hna
                          go_wp2_with fail
                          go_ret
                          obtain ⟨rfl, rfl⟩ := HR.out
                          exact ⟨L, rfl, rfl, ⟨_, c, HD1.out.below HBB2.out⟩, HT1.out.trans (TurnR.of_below HBB2.out)⟩
                        · go_wp2_with fail
                          have hmv : mvF frm dest f = ⟨np, f.A, f.n, f.c, f.b, f.safe⟩ := by rw [mv_yes HU.out, HNPD.out]; rfl
                          have HMV := Lib.hid hmv
                          clear hmv
                          refine (add_any wb _ _ _ _ _ _ _ HRB.out (by rw [HKL.out]; omega) ⟨np, f.A, f.n, f.c, f.b, f.safe⟩ ⟨HOKB.out.1, HOKB.out.2.1, HOKB.out.2.2.1, HOKB.out.2.2.2.1, HOKB.out.2.2.2.2.1, HNM.out⟩ (by have := HNEW.out; rw [HMV.out] at this; exact this)).mono ?_
                          rintro e wz ⟨rfl, ⟨A3, c3, hrz⟩, htz⟩
                          have HBZ := Lib.hid (htz.below HBB2.out (Nat.le_refl _) (fun k hk => (HRB.out.own.lt k hk).1) (by omega))
                          have HRZ := Lib.hid hrz
                          clear hrz htz
                          go_wp2_with fail
                          go_roundg (k - (j + 1))
                          case measure => omega
                          case rel => exact ⟨j + 1, A3, c3, by go_num, by omega, by omega, Lib.hid (by rw [HSTEP.out, HMV.out]; exact HRZ.out), HBZ, Lib.hid (by rw [HALL1.out, ← HNPD.out, HBQ.out]; simp)⟩
                  · have t2 : decide (j < k) = false := decide_eq_false hlt2
                    obtain rfl : j = k := by omega
                    have hc := HC.out
                    have hal := hall.out
                    rw [List.take_of_length_le (by rw [HNL.out]; exact Nat.le_refl _)] at hal
                    rw [hal, if_neg (by simp)] at hc
                    injection hc with h1 h2
                    have HR := Lib.hid (And.intro h1 h2)
                    have hkl := mvK_len (frm := frm) (dest := dest) (L := L) (j := j) (by rw [HNL.out]; exact Nat.le_refl _)
                    have n2 := hrn.out.c2
                    rw [hkl] at n2
                    have HDE := Lib.hid (HD1.out.below hbv.out)
                    have fy := HDE.out.fr 2
                    have HKL := Lib.hid hkl
                    have HE := Lib.hid (mvK_end (frm := frm) (dest := dest) HSO.out HNO.out)
                    clear h1 h2 hal hkl
                    go_wp2_with fail
                    go_ret
                    obtain ⟨rfl, h2⟩ := HR.out
                    have hon := hrn.out.own
                    rw [HKL.out] at hon
                    have hnr := HDE.out.newRow hon HKL.out.symm HD1.out.hs hyl (fun f hf => hrn.out.row f hf) hrn.out.sort
                    refine ⟨_, ?_, rfl, ⟨_, _, hnr.1⟩, (HT1.out.trans (TurnR.of_below hbv.out)).trans hnr.2⟩
                    rw [← h2, ← HE.out, HNL.out]
              · rw [if_pos (by simp)] at hc
                injection hc with h1 h2
                have HR := Lib.hid (And.intro h1 h2)
                clear h1 h2
                go_wp2_with fail
                go_ret
                obtain ⟨rfl, rfl⟩ := HR.out
                exact ⟨L, rfl, rfl, ⟨A, c, HD1.out⟩, HT1.out⟩
            · rw [if_pos rfl] at hc
              injection hc with h1 h2
              have HR := Lib.hid (And.intro h1 h2)
              clear h1 h2
              go_wp2_with fail
              go_ret
              obtain ⟨rfl, rfl⟩ := HR.out
              exact ⟨L, rfl, rfl, ⟨A, c, HD1.out⟩, HT1.out⟩
end Go.Proofs.YtekdcnlbdgikoaaDoor

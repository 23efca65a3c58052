/- Joined texts: DkN. Each has its own head line. No condition beyond those that its theorems state. -/
import Derived.BigQuiet
import Derived.Deep.QuietTactic
import Derived.Test.YtekdcnlbdgikoaaDoorJ18
set_option linter.unusedVariables false

/- disk.under; Fuse; Delete: the walks, and what they are over files without places. -/
namespace Go.Proofs.YtekdcnlbdgikoaaDoor
open Go.RowKit

/-- What stands behind a directory's name (the path itself, where it does not begin so). -/
def restB (p d : ByteArray) : ByteArray := ⟨(Lib.trimPrefix p.data.toList d.data.toList).toArray⟩
/-- A path is another one, or below it. -/
def underB (p d : ByteArray) : Bool :=
  Lib.hasPrefix p.data.toList d.data.toList && ((restB p d).toList.isEmpty || (decide (1 < (restB p d).size) && decide ((restB p d).data.toList.headD 0 = 47)))
theorem head_at (r : ByteArray) (h : 1 < r.size) : (r[0]'(by omega)) = r.data.toList.headD 0 := by
  obtain ⟨⟨l⟩⟩ := r
  cases l with
  | nil => exact absurd (show 1 < 0 from h) (by omega)
  | cons x t => rfl
theorem index0 (w : World) (r : ByteArray) (h : 1 < r.size) : (Instr.index 9 (.string r) (.int .i64 0)).run Tryd.prog w = .ok (.int .u8 (r.data.toList.headD 0).toNat) w := by
  rw [run_index_string w 9 r .i64 0 Tryd.underlying9, dif_pos ⟨by omega, by omega⟩]
  have := head_at r h
  rw [← this]; rfl
set_option maxRecDepth 100000 in
set_option maxHeartbeats 1000000 in
theorem under_any (w : World) (p d : ByteArray) :
    Calls Tryd.prog 30 #[.string p, .string d] w fun e w' => e = .returned (.tuple #[.string (restB p d), .bool (underB p d)]) ∧ ∃ q, w' = w.drewN q := by
  have hcut := Tryd.strings_CutPrefix p d w
  have hR : restB p d = ⟨(Lib.trimPrefix p.data.toList d.data.toList).toArray⟩ := rfl
  have hU : underB p d = (Lib.hasPrefix p.data.toList d.data.toList && ((restB p d).toList.isEmpty || (decide (1 < (restB p d).size) && decide ((restB p d).data.toList.headD 0 = 47)))) := rfl
  rw [← hR] at hcut
  generalize Lib.hasPrefix p.data.toList d.data.toList = ok at hcut hU
  generalize restB p d = r at hcut hU ⊢
  generalize underB p d = u at hU ⊢
  have HC := Lib.hid hcut
  clear hcut hR
  cases ok
  · subst hU
    go_enter Tryd.func30, Tryd.ntmps30
    go_wp2_with fail
    refine HC.out.mono ?_; rintro e w' ⟨rfl, rfl⟩
    go_wp2_with fail
    go_region
    go_wp2_with fail
    go_ret2
    exact ⟨rfl, _, rfl⟩
  · by_cases h0 : r.toList.isEmpty = true
    · rw [h0] at hU
      subst hU
      go_enter Tryd.func30, Tryd.ntmps30
      go_wp2_with fail
      refine HC.out.mono ?_; rintro e w' ⟨rfl, rfl⟩
      go_wp2_with fail
      go_region
      go_wp2_with fail
      go_ret2
      exact ⟨rfl, _, rfl⟩
    · have h0 : r.toList.isEmpty = false := by simpa using h0
      rw [h0] at hU
      by_cases h1 : 1 < r.size
      · have t1 : decide ((1 : Int) < r.size) = true := decide_eq_true (by omega)
        have hi := fun w => index0 w r h1
        rw [decide_eq_true h1] at hU
        generalize r.data.toList.headD 0 = x at hi hU
        obtain ⟨b, hb⟩ : ∃ b, ((x.toNat : Int) == 47) = b := ⟨_, rfl⟩
        have hxb : decide (x = 47) = b := by
          rw [← hb, Bool.eq_iff_iff]
          simp only [decide_eq_true_eq, beq_iff_eq]
          constructor
          · rintro rfl; rfl
          · intro h
            exact UInt8.toNat_inj.1 (by have : (47 : UInt8).toNat = 47 := rfl; omega)
        rw [hxb] at hU
        clear hxb h1
        cases b <;> subst hU
        all_goals
          go_enter Tryd.func30, Tryd.ntmps30
          go_wp2_with fail
          refine HC.out.mono ?_; rintro e w' ⟨rfl, rfl⟩
          go_wp2_with fail
          go_region
          go_wp2_with fail
          go_ret2
          exact ⟨rfl, _, rfl⟩
      · have t1 : decide ((1 : Int) < r.size) = false := decide_eq_false (by omega)
        rw [decide_eq_false h1] at hU
        subst hU
        clear h1
        go_enter Tryd.func30, Tryd.ntmps30
        go_wp2_with fail
        refine HC.out.mono ?_; rintro e w' ⟨rfl, rfl⟩
        go_wp2_with fail
        go_region
        go_wp2_with fail
        go_ret2
        exact ⟨rfl, _, rfl⟩

def fuseN (calls : Int) : Int := max calls 0
set_option maxHeartbeats 1000000 in
theorem Fuse_any (w : World) (d B : Nat) (q lf : Int) (M : List Mf) (h : Da w d B q lf M) (c : Int) :
    Calls Tryd.prog 43 #[.pointer (some ⟨d, 0, none⟩), .int .i64 c] w (DaOut w d B q (fuseN c) M (.tuple #[])) := by
  obtain ⟨L, rfl, hk⟩ := h
  have f1 := hk.fr 1
  have c1 := hk.c1
  have HD := Lib.hid hk
  clear hk
  go_enter Tryd.func43, Tryd.ntmps43
  go_wp2_with fail
  go_returns
  exact ⟨rfl, ⟨L, rfl, HD.out.left _⟩, Turn.setCell (d := d) (B := B) (p := ⟨d, 1, none⟩) (Turn.refl w) (.inl rfl) _⟩

def delM (M : List Mf) (s : ByteArray) : List Mf := M.filter fun f => !decide (f.p = s)
theorem abs_del (L : List Fl) (s : ByteArray) : absF (delF L s) = delM (absF L) s := by
  unfold absF delF delM
  rw [List.filter_map]
  rfl
def deleteM (lf : Int) (M : List Mf) (p : ByteArray) : Int × List Mf :=
  if lf = 0 then (14, M) else if (findM M p).isSome = false then (11, M) else (0, delM M p)
section
variable (w : World) {ops : Array Oper} {rest : List Oper} {o : Oper} {a : Act} {Q : Exit → Act → World → Prop}
/-- 'delete(files, path)'. -/
theorem wpList_del_file (hg : o.guard = none) (m x : Operand) (hop : o.op = Op.call { callee := Callee.builtin Builtin.delete, args := #[m, x], argTypes := #[53, 9] }) (b n : Nat) (L : List Fl)
    (hm : a.eval m = .map (some b)) (hown : w.ownsMap Tryd.prog 9 rawE b n (dat L)) (s : ByteArray) (hx : a.eval x = .string s) (hs : s.size ≤ maxLen)
    (hK : ∀ w', w'.ownsMap Tryd.prog 9 rawE b n (dat (delF L s)) → w.mapTurned w' b → wpList Tryd.prog ops Q rest (a.put o.dst (.tuple #[])) w') :
    wpList Tryd.prog ops Q (o :: rest) a w := by
  refine wpList_delete_own w hg m x _ _ hop 57 keyed_s Tryd.underlying53 rawE b n (dat L) hm hown _ _ hx (key_of hs) ?_
  intro w' h1 h2
  rw [dat_del] at h1
  exact hK w' h1 h2
end
set_option maxHeartbeats 1000000 in
theorem Delete_any (w : World) (d B : Nat) (q lf : Int) (M : List Mf) (h : Da w d B q lf M) (hl : -9223372036854775808 ≤ lf ∧ lf < 9223372036854775808) (p : ByteArray) (hp : p.size ≤ maxLen) (er : Int) (M' : List Mf) (hc : deleteM lf M p = (er, M')) :
    Calls Tryd.prog 25 #[.pointer (some ⟨d, 0, none⟩), .string p] w (DaOut w d B q (burnL lf) M' (.int .i64 er)) := by
  obtain ⟨L, rfl, hk⟩ := h
  have HD := Lib.hid hk
  unfold deleteM at hc
  clear hk
  by_cases h0 : lf = 0
  · rw [if_pos h0] at hc
    injection hc with h1 h2
    have HR := Lib.hid (And.intro h1 h2)
    have HL := Lib.hid (show decide (lf = 0) = true from decide_eq_true h0)
    clear h0 h1 h2
    go_enter Tryd.func25, Tryd.ntmps25
    go_wp2_with fail
    refine (burnt_any _ _ _ _ _ _ HD.out hl).mono ?_; rintro e w1 ⟨rfl, hd1, ht1, _⟩
    rw [HL.out]
    have HD1 := Lib.hid hd1; have HT1 := Lib.hid ht1
    clear hd1 ht1
    go_wp2_with fail
    go_ret
    obtain ⟨rfl, rfl⟩ := HR.out
    exact ⟨rfl, ⟨L, rfl, HD1.out⟩, HT1.out⟩
  · rw [if_neg h0, abs_find, Option.isSome_map] at hc
    have HL := Lib.hid (show decide (lf = 0) = false from decide_eq_false h0)
    clear h0
    obtain ⟨A, n, c, sf, hV⟩ : ∃ A n c sf, fileAt L p = .agg #[.slice A n c, .int .i64 sf] := by
      unfold fileAt
      cases findF L p with
      | none => exact ⟨none, 0, 0, 0, rfl⟩
      | some f => exact ⟨f.A, f.n, f.c, f.safe, rfl⟩
    obtain ⟨bo, hbo⟩ : ∃ bo, (findF L p).isSome = bo := ⟨_, rfl⟩
    rw [hbo] at hc
    have HV := Lib.hid hV; have HBO := Lib.hid hbo
    clear hV hbo
    cases bo
    · rw [if_pos rfl] at hc
      injection hc with h1 h2
      have HR := Lib.hid (And.intro h1 h2)
      clear h1 h2
      go_enter Tryd.func25, Tryd.ntmps25
      go_wp2_with fail
      refine (burnt_any _ _ _ _ _ _ HD.out hl).mono ?_; rintro e w1 ⟨rfl, hd1, ht1, _⟩
      rw [HL.out]
      have c2 := hd1.c2
      have HD1 := Lib.hid hd1; have HT1 := Lib.hid ht1
      clear hd1 ht1
      go_wp2_with (at_lookup; refine wpList_look_file _ rfl _ _ rfl B L.length L rfl HD1.out.own p rfl hp _ _ HV.out HBO.out ?_)
      go_ret
      obtain ⟨rfl, rfl⟩ := HR.out
      exact ⟨rfl, ⟨L, rfl, HD1.out.alloc _⟩, HT1.out.alloc _⟩
    · rw [if_neg (by simp)] at hc
      injection hc with h1 h2
      have HR := Lib.hid (And.intro h1 h2)
      clear h1 h2
      go_enter Tryd.func25, Tryd.ntmps25
      go_wp2_with fail
      refine (burnt_any _ _ _ _ _ _ HD.out hl).mono ?_; rintro e w1 ⟨rfl, hd1, ht1, _⟩
      rw [HL.out]
      have c2 := hd1.c2
      have hd2 := hd1.alloc (.cells #[.slice A n c, .int .i64 sf] 57)
      have c22 := hd2.c2
      have HD1 := Lib.hid hd1; have HD2 := Lib.hid hd2; have HT1 := Lib.hid ht1
      clear hd1 hd2 ht1
      go_wp2_with (first
        | (at_lookup; refine wpList_look_file _ rfl _ _ rfl B L.length L rfl HD1.out.own p rfl hp _ _ HV.out HBO.out ?_)
        | (at_delete; refine wpList_del_file _ rfl _ _ rfl B L.length L rfl HD2.out.own p rfl hp ?_; intro w4 ho4 ht4))
      go_ret
      obtain ⟨rfl, rfl⟩ := HR.out
      exact ⟨rfl, ⟨delF L p, abs_del L p, HD2.out.map ht4 ho4 (fun f hf => HD2.out.row f (List.mem_filter.1 hf).1)⟩, (HT1.out.alloc _).map ht4⟩
end Go.Proofs.YtekdcnlbdgikoaaDoor

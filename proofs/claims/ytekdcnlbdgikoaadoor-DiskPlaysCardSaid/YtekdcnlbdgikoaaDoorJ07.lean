/- Joined texts: DkC. Each has its own head line. No condition beyond those that its theorems state. -/
import Derived.Test.YtekdcnlbdgikoaaDoorJ06
set_option linter.unusedVariables false

/- disk.Create: laws on the map of files at the operation. -/
namespace Go.Proofs.YtekdcnlbdgikoaaDoor
open Go.RowKit

def zeroF : Value := .agg #[.slice none 0 0, .int .i64 0]
/-- What stands at a path. -/
def fileAt (L : List Fl) (s : ByteArray) : Value := match findF L s with | some f => f.val | none => zeroF
section
variable (w : World) {ops : Array Oper} {rest : List Oper} {o : Oper} {a : Act} {Q : Exit → Act → World → Prop}
/-- 'f, ok := files[path]'. -/
theorem wpList_look_file (hg : o.guard = none) (m x : Operand) (hop : o.op = Op.lookup 53 m x true) (b n : Nat) (L : List Fl)
    (hm : a.eval m = .map (some b)) (hown : w.ownsMap Tryd.prog 9 rawE b n (dat L)) (s : ByteArray) (hx : a.eval x = .string s) (hs : s.size ≤ maxLen) (V : Value) (bo : Bool) (hV : fileAt L s = V) (hbo : (findF L s).isSome = bo)
    (hK : wpList Tryd.prog ops Q rest (a.put o.dst (.tuple #[V, .bool bo])) w) :
    wpList Tryd.prog ops Q (o :: rest) a w := by
  refine wpList_lookup_own_ok w hg m x _ hop 9 57 keyed_s Tryd.underlying53 rawE (zero_file w) (.held zeroF) [] rfl b n (dat L) hm hown _ _ hx (key_of hs) ?_
  intro v ps hv
  unfold rawE at hv
  injection hv with hv
  injection hv with hv _
  rw [dat_atKey] at hv
  have e : v = V := by
    rw [← hV]
    unfold fileAt
    cases hf : findF L s with
    | none => rw [hf] at hv; injection hv
    | some f => rw [hf] at hv; injection hv
  rw [e, dat_has, hbo]
  exact hK
/-- 'files[path] = f'. -/
theorem wpList_put_file (hg : o.guard = none) (m x v : Operand) (hop : o.op = Op.mapUpdate 53 m x v) (b n : Nat) (L : List Fl)
    (hm : a.eval m = .map (some b)) (hown : w.ownsMap Tryd.prog 9 rawE b n (dat L)) (hn : n < maxLen) (g : Fl) (hx : a.eval x = .string g.p) (hv : a.eval v = g.val) (hs : g.p.size ≤ maxLen)
    (hK : ∀ w', w'.ownsMap Tryd.prog 9 rawE b (n + 1) (dat (insF g (delF L g.p))) → w.mapTurned w' b → wpList Tryd.prog ops Q rest (a.put o.dst undef) w') :
    wpList Tryd.prog ops Q (o :: rest) a w := by
  refine wpList_mapUpdate_in w hg m x v _ hop 9 57 keyed_s Tryd.underlying53 rawE b n (dat L) hm hown hn _ _ _ hx hv (key_of hs) _ [] rfl ?_
  intro w' h1 h2
  rw [dat_put] at h1
  exact hK w' h1 h2
end

/-- What Create answers, and what is there then. -/
def createF (lf : Int) (L : List Fl) (p : ByteArray) : Int × List Fl :=
  if lf = 0 then (14, L) else if pathD p = false then (13, L) else if (findF L p).isSome = true then (12, L) else if 400 ≤ L.length then (3, L) else (0, insF ⟨p, none, 0, 0, [], 0⟩ L)
/-- A world behind a call of the disk. -/
def DkOut (w : World) (d B : Nat) (q lf : Int) (L : List Fl) (v : Value) (e : Ending) (w' : World) : Prop := e = .returned v ∧ Dk w' d B q lf L ∧ Turn d B w w'

set_option maxRecDepth 100000 in
set_option maxHeartbeats 1000000 in
theorem Create_any (w : World) (d B : Nat) (q lf : Int) (L : List Fl) (h : Dk w d B q lf L) (hl : -9223372036854775808 ≤ lf ∧ lf < 9223372036854775808) (hd0 : d ≠ 0) (hB0 : B ≠ 0) (p : ByteArray) (hp : p.size ≤ maxLen) (m : Int) (hm : w.cell? ⟨0, 0, none⟩ = some (.int .i64 m)) (er : Int) (L' : List Fl) (hc : createF lf L p = (er, L')) :
    Calls Tryd.prog 10 #[.pointer (some ⟨d, 0, none⟩), .string p] w (DkOut w d B q (burnL lf) L' (.int .i64 er)) := by
  have HD := Lib.hid h; have HM := Lib.hid hm; have HC := Lib.hid hc
  clear h hm hc
  by_cases h0 : lf = 0
  · have HR : Hid (er = 14 ∧ L' = L) := by
      have hc := HC.out
      unfold createF at hc
      rw [if_pos h0] at hc
      injection hc with h1 h2
      exact Lib.hid ⟨h1.symm, h2.symm⟩
    have hd : decide (lf = 0) = true := decide_eq_true h0
    have HL := Lib.hid hd
    clear h0 hd
    go_enter Tryd.func10, Tryd.ntmps10
    go_wp2_with fail
    refine (burnt_any _ _ _ _ _ _ HD.out hl).mono ?_; rintro e w1 ⟨rfl, hd1, ht1, _⟩
    rw [HL.out]
    have HD1 := Lib.hid hd1; have HT1 := Lib.hid ht1
    clear hd1 ht1
    go_wp2_with fail
    go_ret
    obtain ⟨rfl, rfl⟩ := HR.out
    exact ⟨rfl, HD1.out, HT1.out⟩
  · have hd : decide (lf = 0) = false := decide_eq_false h0
    have HL := Lib.hid hd
    have hc := HC.out
    unfold createF at hc
    rw [if_neg h0] at hc
    have HC2 := Lib.hid hc
    clear h0 hd hc HC
    go_enter Tryd.func10, Tryd.ntmps10
    go_wp2_with fail
    refine (burnt_any _ _ _ _ _ _ HD.out hl).mono ?_; rintro e w1 ⟨rfl, hd1, ht1, _⟩
    rw [HL.out]
    have c2 := hd1.c2
    have HD1 := Lib.hid hd1; have HT1 := Lib.hid ht1
    have HM1 := Lib.hid (ht1.cell HM.out (fun e => hd0 e.symm) (fun e => hB0 e.symm))
    clear hd1 ht1
    obtain ⟨bo, hbo⟩ : ∃ bo, (findF L p).isSome = bo := ⟨_, rfl⟩
    obtain ⟨A, n, c, sf, hV⟩ : ∃ A n c sf, fileAt L p = .agg #[.slice A n c, .int .i64 sf] := by
      unfold fileAt
      cases findF L p with
      | none => exact ⟨none, 0, 0, 0, rfl⟩
      | some f => exact ⟨f.A, f.n, f.c, f.safe, rfl⟩
    have HV := Lib.hid hV; have HBO := Lib.hid hbo
    clear hV hbo
    go_wp2_with (at_lookup; refine wpList_look_file _ rfl _ _ rfl B L.length L rfl HD1.out.own p rfl hp _ bo HV.out HBO.out ?_)
    have hd2 := HD1.out.alloc (.cells #[.slice A n c, .int .i64 sf] 57)
    have HT2 := Lib.hid (HT1.out.alloc (.cells #[.slice A n c, .int .i64 sf] 57))
    have hm2 := (World.cell?_alloc_lt w1 (.cells #[.slice A n c, .int .i64 sf] 57) ⟨0, 0, none⟩ (World.block_lt_of_cell? w1 _ HM1.out)).trans HM1.out
    have HD2 := Lib.hid hd2
    refine (Path_any _ p m hm2).mono ?_; rintro e w3 ⟨rfl, hb3⟩
    have hd3 := HD2.out.below hb3
    have c23 := hd3.c2
    have HD3 := Lib.hid hd3
    have HT3 := Lib.hid (HT2.out.trans (Turn.of_below hb3))
    clear hd2 hm2 hb3 hd3 c2
    obtain ⟨bp, hbp⟩ : ∃ bp, pathD p = bp := ⟨_, rfl⟩
    have hc := HC2.out
    rw [hbp, HBO.out] at hc
    rw [hbp]
    clear hbp HC2
    cases bp
    · rw [if_pos rfl] at hc
      injection hc with h1 h2
      have HR := Lib.hid (And.intro h1 h2)
      clear h1 h2 c23
      go_wp2_with fail
      go_ret
      obtain ⟨rfl, rfl⟩ := HR.out
      exact ⟨rfl, HD3.out, HT3.out⟩
    · rw [if_neg (by simp)] at hc
      cases bo
      · rw [if_neg (by simp)] at hc
        have HO3 := Lib.hid HD3.out.own
        by_cases hbig : 400 ≤ L.length
        · rw [if_pos hbig] at hc
          injection hc with h1 h2
          have HR := Lib.hid (And.intro h1 h2)
          have t4 : decide ((400 : Int) ≤ L.length) = true := decide_eq_true (by omega)
          clear h1 h2
          go_wp2_with (at_len; refine wpList_len_own _ rfl _ _ rfl 9 57 Tryd.underlying53 rawE B L.length (dat L) rfl HO3.out ?_; rw [dat_size])
          go_ret
          obtain ⟨rfl, rfl⟩ := HR.out
          exact ⟨rfl, HD3.out, HT3.out⟩
        · rw [if_neg hbig] at hc
          injection hc with h1 h2
          have HR := Lib.hid (And.intro h1 h2)
          have HB := Lib.hid hbig
          have t4 : decide ((400 : Int) ≤ L.length) = false := decide_eq_false (by omega)
          clear h1 h2 hbig
          go_wp2_with (first
            | (at_len; refine wpList_len_own _ rfl _ _ rfl 9 57 Tryd.underlying53 rawE B L.length (dat L) rfl HO3.out ?_; rw [dat_size])
            | (at_mapUpdate; refine wpList_put_file _ rfl _ _ _ rfl B L.length L rfl HO3.out (by have := HB.out; unfold maxLen; omega) ⟨p, none, 0, 0, [], 0⟩ rfl rfl hp ?_; intro w4 ho4 ht4))
          go_ret
          obtain ⟨rfl, rfl⟩ := HR.out
          have hnew : findF L p = none := Option.not_isSome_iff_eq_none.1 (by rw [HBO.out]; simp)
          rw [put_new (g := ⟨p, none, 0, 0, [], 0⟩) hnew] at ho4
          refine ⟨rfl, HD3.out.map ht4 ho4 (fun f hf => ?_), HT3.out.map ht4⟩
          rcases insF_mem hf with rfl | hf
          · exact ⟨Ri.nil _ _ _, (fun x hx => by cases hx), Nat.le_refl _, by simp, Nat.le_refl _, hp⟩
          · exact HD3.out.row f hf
      · rw [if_pos rfl] at hc
        injection hc with h1 h2
        have HR := Lib.hid (And.intro h1 h2)
        clear h1 h2 c23
        go_wp2_with fail
        go_ret
        obtain ⟨rfl, rfl⟩ := HR.out
        exact ⟨rfl, HD3.out, HT3.out⟩
end Go.Proofs.YtekdcnlbdgikoaaDoor

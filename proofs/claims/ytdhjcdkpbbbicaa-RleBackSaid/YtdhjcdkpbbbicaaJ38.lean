/- Joined texts: Shown11, LawG1, LawG3, LawG4. Each has its own head line. No condition beyond those that its theorems state. -/
import Derived.Test.YtdhjcdkpbbbicaaJ37
import Derived.Test.YtdhjcdkpbbbicaaJ24
import Derived.Test.YtdhjcdkpbbbicaaJ35
import Derived.Test.YtdhjcdkpbbbicaaJ36
set_option linter.unusedVariables false

/- rle's laws: the head. -/
namespace Go.Proofs.Ytdhjcdkpbbbicaa
open Go.RowKit

set_option maxRecDepth 100000 in
set_option maxHeartbeats 1000000 in
theorem shown11_any (w : World) :
    Calls Try.prog 11 #[] w fun e w' => e = .returned (.bool true) ∧ Below w.heap.size w w' := by
  go_enter Try.func11, Try.ntmps11
  go_wp2_with fail
  refine (PutGl_any _ _ 5 5 [7, 7, 7, 7, 7] (Ri_lit _ _ _ _ _ rfl _ rfl) (by unfold I64; decide) (by omega) (by omega) (by omega) true [2, 14] 0 (by decide +kernel)).mono ?_; rintro e w1 ⟨G1, n1, c1, rfl, hr1, hb1⟩
  have HB1 := Lib.hid (on ((Below.refl w.heap.size w).alloc (Nat.le_refl _) _) hb1)
  go_wp2_with fail
  refine (PutGl_any _ _ 1 1 [1] (Ri_lit _ _ _ _ _ rfl _ rfl) (by unfold I64; decide) (by omega) (by omega) (by omega) false [64, 0, 128] 0 (by decide +kernel)).mono ?_; rintro e w2 ⟨G2, n2, c2, rfl, hr2, hb2⟩
  have HB2 := Lib.hid (on (on HB1.out ((Below.refl w1.heap.size w1).alloc (Nat.le_refl _) _)) hb2)
  have cv1 := conv_any (c := c1) ((hr1.1.alloc _).below hb2)
  have cv2 := conv_any (c := c2) hr2.1
  have s1 : (strOf [2, 14]).toList = [2, 14] := strOf_toList _
  have s2 : (strOf [64, 0, 128]).toList = [64, 0, 128] := strOf_toList _
  clear hr1 hb1 hr2 hb2
  go_wp2_with fail
  go_ret
  exact ⟨rfl, HB2.out⟩

def FewOut11 (w : World) (A : Option Addr) (n k : Nat) (l : List Int) (kd : IntKind) (e : Ending) (w' : World) : Prop :=
  ∃ m c, e = .returned (.slice A m c) ∧ w' = w ∧ m ≤ c ∧ c ≤ 9223372036854775807 ∧ m ≤ k ∧ m ≤ n ∧ Ri w kd A m (l.take k)
set_option maxHeartbeats 400000 in
theorem few11_any (w : World) (A : Option Addr) (n c k : Nat) (l : List Int) (hr : Ri w .i64 A n l) (hc : n ≤ c) (hcm : c ≤ 9223372036854775807) :
    Calls Try.prog 12 #[.slice A n c, .int .i64 k] w (FewOut11 w A n k l .i64) := by
  have HR := Lib.hid hr; clear hr
  rcases Nat.lt_or_ge k n with h | h
  · have h1 : decide (k < n) = true := decide_eq_true h
    have h2 : (0 : Int) ≤ (k : Int) := by omega
    have h3 : (k : Int) ≤ (c : Int) := by omega
    go_enter Try.func12, Try.ntmps12
    go_wp2_with fail
    go_ret
    exact ⟨k, c, rfl, rfl, by omega, hcm, Nat.le_refl _, by omega, HR.out.first (by omega)⟩
  · have h1 : decide (k < n) = false := decide_eq_false (by omega)
    go_enter Try.func12, Try.ntmps12
    go_wp2_with fail
    go_ret
    exact ⟨n, c, rfl, rfl, hc, hcm, h, Nat.le_refl _, by rw [List.take_of_length_le (by rw [HR.out.len]; exact h)]; exact HR.out⟩
end Go.Proofs.Ytdhjcdkpbbbicaa

/- The walk through RleRuns. -/
namespace Go.Proofs.Ytdhjcdkpbbbicaa
open Go.RowKit

set_option maxRecDepth 100000 in
set_option maxHeartbeats 1000000 in
theorem RleRuns_walk (w : World) (A : Option Addr) (n cap : Nat) (l : List Int) (hr : Ri w .i64 A n l) (hu : I64 l) (hc : n ≤ cap) (hm : cap ≤ maxLen) (s : Bool) :
    Calls Try.prog 3 #[.slice A n cap, .bool s] w fun e w' => e = .returned (.bool true) ∧ Below w.heap.size w w' := by
  unfold maxLen at hm
  have HU : Hid (I64 (l.take 600)) := Lib.hid fun x hx => hu x (List.mem_of_mem_take hx)
  have HR := Lib.hid hr; clear hr hu
  obtain ⟨r, er, hl⟩ : ∃ r er, runR (l.take 600) s = (r, er) := ⟨_, _, rfl⟩
  have HLL := Lib.hid hl; clear hl
  go_enter Try.func3, Try.ntmps3
  go_wp2_with fail
  refine (shown11_any _).mono ?_; rintro e w1 ⟨rfl, hb1⟩
  go_wp2_with fail
  refine (few11_any _ _ _ _ 600 l (HR.out.below hb1) hc hm).mono ?_; rintro e w1' ⟨m, c2, rfl, rfl, hmc, hcm2, hm42, hmn, hr2⟩
  have H2 := Lib.hid hr2; clear hr2
  go_wp2_with fail
  refine (Run_any _ _ _ _ (l.take 600) H2.out HU.out hmc hcm2 (by omega) s r er HLL.out).mono ?_; rintro e w4 ⟨G4, n4, c4, rfl, hr4, hb4⟩
  have H24 := Lib.hid (H2.out.below hb4)
  go_wp2_with fail
  refine (refRun_any _ _ _ _ (l.take 600) H24.out HU.out hmc (by omega) s r er HLL.out).mono ?_; rintro e w5 ⟨G5, n5, c5, rfl, hr5, hb5⟩
  have H25 := Lib.hid (H24.out.below hb5)
  have cv1 := conv_any (c := c4) (hr4.1.below hb5)
  have cv2 := conv_any (c := c5) hr5.1
  have st := strOf_same r
  generalize strOf r = S at *
  have HB := Lib.hid (on (on hb1 hb4) hb5)
  clear hr4 hr5 hb1 hb4 hb5
  go_wp2_with fail
  refine (Cut_any _ _ _ _ (l.take 600) H25.out hmc hcm2 (by omega)).mono ?_; rintro e w6 ⟨rfl, hb6⟩
  have H26 := Lib.hid (H25.out.below hb6)
  clear cv1 cv2 st
  go_wp2_with fail
  refine (refCut_any _ _ _ _ (l.take 600) H26.out hmc (by omega)).mono ?_; rintro e w7 ⟨rfl, hb7⟩
  generalize cutL (l.take 600) = CL at *
  have HB7 := Lib.hid (on (on HB.out hb6) hb7)
  clear hb6 hb7
  go_wp2_with fail
  go_ret
  exact ⟨rfl, HB7.out⟩
end Go.Proofs.Ytdhjcdkpbbbicaa

/- The walk through RleShort. -/
namespace Go.Proofs.Ytdhjcdkpbbbicaa
open Go.RowKit

set_option maxRecDepth 100000 in
set_option maxHeartbeats 1000000 in
theorem RleShort_walk (w : World) (A : Option Addr) (n cap : Nat) (l0 : List Int) (hr : Ri w .i64 A n l0) (hu : I64 l0) (hc : n ≤ cap) (hm : cap ≤ maxLen) (s : Bool) :
    Calls Try.prog 5 #[.slice A n cap, .bool s] w fun e w' => e = .returned (.bool true) ∧ Below w.heap.size w w' := by
  unfold maxLen at hm
  have HU : Hid (I64 (l0.take 512)) := Lib.hid fun x hx => hu x (List.mem_of_mem_take hx)
  have HR := Lib.hid hr; clear hr hu
  obtain ⟨l, hl0⟩ : ∃ l, l = l0.take 512 := ⟨_, rfl⟩
  rw [← hl0] at HU
  have HL0 := Lib.hid hl0
  clear hl0
  cases hbd : badRun l s
  · obtain ⟨q, hq, hq2, _, _, hqs⟩ := run_ok l s HU.out hbd
    obtain ⟨p, hp⟩ := putD_ok l s hbd
    have hqp := hqs 1 p (by omega) (by unfold candR; rw [if_neg (by omega), if_pos rfl]; exact hp)
    obtain ⟨d, ed, hd⟩ : ∃ d ed, putDe l s = (d, ed) := ⟨_, _, rfl⟩
    have hqd : (q.length : Nat) ≤ d.length ∨ ed = 1 := by
      by_cases he : ed = 0
      · subst he
        exact .inl (hqs 2 d (by omega) (by unfold candR; rw [if_neg (by omega), if_neg (by omega), if_pos rfl]; exact hd))
      · right
        unfold putDe at hd
        split at hd
        · injection hd with _ hd; exact hd.symm
        · injection hd with _ hd; exact absurd hd.symm he
    have hed : ed = 0 ∨ ed = 1 := by
      unfold putDe at hd
      split at hd
      · injection hd with _ hd; exact .inr hd.symm
      · injection hd with _ hd; exact .inl hd.symm
    have HQ := Lib.hid hq; have HP := Lib.hid hp; have HD := Lib.hid hd
    clear hq hp hd hbd hqs
    rcases hed with rfl | rfl
    all_goals
      go_enter Try.func5, Try.ntmps5
      go_wp2_with fail
      refine (shown11_any _).mono ?_; rintro e w1 ⟨rfl, hb1⟩
      go_wp2_with fail
      refine (few11_any _ _ _ _ 512 l0 (HR.out.below hb1) hc hm).mono ?_; rintro e w1' ⟨m, c2, rfl, rfl, hmc, hcm2, hm42, hmn, hr2⟩
      rw [← HL0.out] at hr2
      have H2 := Lib.hid hr2; clear hr2
      go_wp2_with fail
      refine (Run_any _ _ _ _ l H2.out HU.out hmc hcm2 (by omega) s q 0 HQ.out).mono ?_; rintro e w4 ⟨G4, n4, c4, rfl, hr4, hb4⟩
      have hn4 := hr4.1.len
      have H24 := Lib.hid (H2.out.below hb4)
      go_wp2_with fail
      refine (DPut_any _ _ _ _ l H24.out HU.out (by omega) s p 0 HP.out).mono ?_; rintro e w5 ⟨G5, n5, c5, rfl, hr5, hb5⟩
      have hn5 := hr5.1.len
      have H25 := Lib.hid (H24.out.below hb5)
      go_wp2_with fail
      refine (DePut_any _ _ _ _ l H25.out HU.out hmc hcm2 (by omega) s d _ HD.out).mono ?_; rintro e w6 ⟨G6, n6, c6, rfl, hr6, hb6⟩
      have hn6 := hr6.1.len
      have HB := Lib.hid (on (on (on hb1 hb4) hb5) hb6)
      have t1 : decide (n4 ≤ n5) = true := decide_eq_true (by omega)
      have t0 : (2 : Int) ≤ (n4 : Int) := by omega
      have t2 : decide ((2 : Int) ≤ (n4 : Int)) = true := decide_eq_true (by omega)
      first
      | (have t3 : decide (n4 ≤ n6) = true := decide_eq_true (by omega)
         clear hr4 hr5 hr6 hb1 hb4 hb5 hb6 hn4 hn5 hn6 hqd hqp hq2
         go_wp2_with fail
         go_ret
         exact ⟨rfl, HB.out⟩)
      | (clear hr4 hr5 hr6 hb1 hb4 hb5 hb6 hn4 hn5 hn6 hqd hqp hq2
         go_wp2_with fail
         go_ret
         exact ⟨rfl, HB.out⟩)
  · have hq : runR l s = ([], 1) := by unfold runR; rw [hbd]; rfl
    have HQ := Lib.hid hq; have HP := Lib.hid (putD_no l s hbd); have HD := Lib.hid (putDe_no l s hbd)
    clear hq hbd
    go_enter Try.func5, Try.ntmps5
    go_wp2_with fail
    refine (shown11_any _).mono ?_; rintro e w1 ⟨rfl, hb1⟩
    go_wp2_with fail
    refine (few11_any _ _ _ _ 512 l0 (HR.out.below hb1) hc hm).mono ?_; rintro e w1' ⟨m, c2, rfl, rfl, hmc, hcm2, hm42, hmn, hr2⟩
    rw [← HL0.out] at hr2
    have H2 := Lib.hid hr2; clear hr2
    go_wp2_with fail
    refine (Run_any _ _ _ _ l H2.out HU.out hmc hcm2 (by omega) s [] 1 HQ.out).mono ?_; rintro e w4 ⟨G4, n4, c4, rfl, hr4, hb4⟩
    have H24 := Lib.hid (H2.out.below hb4)
    clear hr4
    go_wp2_with fail
    refine (DPut_any _ _ _ _ l H24.out HU.out (by omega) s [] 1 HP.out).mono ?_; rintro e w5 ⟨G5, n5, c5, rfl, hr5, hb5⟩
    have H25 := Lib.hid (H24.out.below hb5)
    clear hr5
    go_wp2_with fail
    refine (DePut_any _ _ _ _ l H25.out HU.out hmc hcm2 (by omega) s [] 1 HD.out).mono ?_; rintro e w6 ⟨G6, n6, c6, rfl, hr6, hb6⟩
    have HB := Lib.hid (on (on (on hb1 hb4) hb5) hb6)
    clear hr6 hb1 hb4 hb5 hb6
    go_wp2_with fail
    go_ret
    exact ⟨rfl, HB.out⟩
end Go.Proofs.Ytdhjcdkpbbbicaa

/- The walk through RleSame. -/
namespace Go.Proofs.Ytdhjcdkpbbbicaa
open Go.RowKit

/-- append onto a row of the call's own, elements of kind i64; where the new slice lies. -/
theorem wpList_i64x (w : World) {ops : Array Oper} {rest : List Oper} {o : Oper} {a : Act} {Q : Exit → Act → World → Prop} (hgd : o.guard = none) (s x : Operand)
    (ho : o.op = .call { callee := .builtin .append, args := #[s, x], argTypes := #[22, 22] })
    (base : Nat) (v : Value) (n : Nat) (l : List Int) (hs : a.eval s = v) (hown : w.ownsRow base 3 1 v n (l.map (Value.int .i64)))
    (A : Option Addr) (m c : Nat) (l2 : List Int) (hx : a.eval x = .slice A m c) (hr : Ri w .i64 A m l2) (hb : n + m ≤ 2000000000) (hbase : base ≤ w.heap.size)
    (h : ∀ G cap w', w'.ownsRow base 3 1 (.slice G (n + m) cap) (n + m) ((l ++ l2).map (Value.int .i64)) → w.grownBy w' v.ownBlock → n + m ≤ cap → ((Value.slice G (n + m) cap).ownBlock = v.ownBlock ∨ (Value.slice G (n + m) cap).ownBlock = some w.heap.size) → wpList Try.prog ops Q rest (a.put o.dst (.slice G (n + m) cap)) w') : wpList Try.prog ops Q (o :: rest) a w := by
  obtain ⟨i0, hi, hz0, hz1, hz2⟩ := info_parts info_i64
  refine wpList_append_any w hgd s x 22 ho base 3 i0 (.int .i64 0) 1 8 Try.underlying22 hi hz0 hz1 hz2 rfl (by decide) v n _ hs hown A m c _ hx hr (Ri.oneCell _ _) (by unfold maxLen; omega) (by omega) hbase ?_
  intro G cap w' h1 h2 h3 h4
  rw [← List.map_append] at h1
  exact h G cap w' h1 h2 h4 h3
/-- Two rows of the call's own, side by side. -/
def TwoW (w0 w : World) (v1 v2 : Value) (j : Nat) (L1 L2 : List Int) : Prop :=
  w.ownsRow w0.heap.size 3 1 v1 j (L1.map (Value.int .i64)) ∧ w.ownsRow w0.heap.size 3 1 v2 j (L2.map (Value.int .i64)) ∧ Apart v1 v2 ∧ Below w0.heap.size w0 w
theorem TwoW.one {w0 w w3 : World} {v1 v2 V : Value} {j : Nat} {L1 L2 L3 : List Int} {o : Obj} (h : TwoW w0 w v1 v2 j L1 L2) (hg : (w.alloc o).grownBy w3 v1.ownBlock)
    (hown : w3.ownsRow w0.heap.size 3 1 V (j + 1) (L3.map (Value.int .i64))) (hat : V.ownBlock = v1.ownBlock ∨ V.ownBlock = some (w.alloc o).heap.size) :
    w3.ownsRow w0.heap.size 3 1 V (j + 1) (L3.map (Value.int .i64)) ∧ w3.ownsRow w0.heap.size 3 1 v2 j (L2.map (Value.int .i64)) ∧ Apart V v2 ∧ Below w0.heap.size w0 w3 := by
  obtain ⟨h1, h2, h3, h4⟩ := h
  exact ⟨hown, h3.kept (h2.alloc o) hg, h3.grown (h2.alloc o) (Nat.le_refl _) hat, push_ h4 (Nat.le_refl _) h1 hg⟩
theorem two_mid {w0 w w3 : World} {v1 v2 V : Value} {j : Nat} {L1 L2 L3 : List Int} {o : Obj} (h1 : w.ownsRow w0.heap.size 3 1 V j (L3.map (Value.int .i64))) (h2 : w.ownsRow w0.heap.size 3 1 v2 (j - 1) (L2.map (Value.int .i64))) (h3 : Apart V v2) (h4 : Below w0.heap.size w0 w)
    (hg : (w.alloc o).grownBy w3 v2.ownBlock) (hown : w3.ownsRow w0.heap.size 3 1 v1 j (L1.map (Value.int .i64))) (hat : v1.ownBlock = v2.ownBlock ∨ v1.ownBlock = some (w.alloc o).heap.size) : TwoW w0 w3 V v1 j L3 L1 := by
  refine ⟨h3.symm.kept (h1.alloc o) hg, hown, (h3.symm.grown (h1.alloc o) (Nat.le_refl _) hat).symm, push_ h4 (Nat.le_refl _) h2 hg⟩
theorem two_start (w : World) : TwoW w ((w.alloc (.cells #[] 3)).alloc (.cells #[] 3)) (.slice (some ⟨w.heap.size, 0, none⟩) 0 0) (.slice (some ⟨w.heap.size + 1, 0, none⟩) 0 0) 0 [] [] := by
  have h1 := own_empty w 3 1
  refine ⟨own_below h1 ((Below.refl (w.alloc (.cells #[] 3)).heap.size _).alloc (Nat.le_refl _) _), ?_, ?_, (((Below.refl _ _).alloc (Nat.le_refl _) _).alloc (by simp) _)⟩
  · exact ⟨rfl, .inr ⟨w.heap.size + 1, 0, _, rfl, by omega, Blk.new_ (by simp), Nat.le_refl _, by unfold maxLen; omega, rfl, by simp⟩⟩
  · intro g h2 h3
    simp [Value.ownBlock] at h2 h3
    omega
theorem ri_one_ats {w : World} {k : IntKind} {x : Int} {t : TypeId} {g : Nat} (h : g = w.heap.size) : Ri (w.alloc (.cells #[.int k x] t)) k (some ⟨g, 0, none⟩) 1 [x] := by subst h; exact Rd.one _ _ _

set_option maxRecDepth 100000 in
set_option maxHeartbeats 2000000 in
theorem RleSame_walk (w : World) (x : Int) (hx : -9223372036854775808 ≤ x ∧ x < 9223372036854775808) (step : Int) (_hs : -9223372036854775808 ≤ step ∧ step < 9223372036854775808) (times : Int) (_ht : -9223372036854775808 ≤ times ∧ times < 9223372036854775808) :
    Calls Try.prog 6 #[.int .i64 x, .int .i64 step, .int .i64 times] w fun e w' => e = .returned (.bool true) ∧ Below w.heap.size w w' := by
  have a1 : 0 ≤ bits BinOp.and IntKind.i64 times 255 ∧ bits BinOp.and IntKind.i64 times 255 ≤ 255 := and_low times 255 (by omega)
  have a2 : 0 ≤ bits BinOp.and IntKind.i64 step 1023 ∧ bits BinOp.and IntKind.i64 step 1023 ≤ 1023 := and_low step 1023 (by omega)
  obtain ⟨t, ht⟩ : ∃ t : Nat, bits BinOp.and IntKind.i64 times 255 = (t : Int) := ⟨(bits BinOp.and IntKind.i64 times 255).toNat, by omega⟩
  obtain ⟨d, hd⟩ : ∃ d : Nat, bits BinOp.and IntKind.i64 step 1023 = (d : Int) := ⟨(bits BinOp.and IntKind.i64 step 1023).toNat, by omega⟩
  have t1 : t ≤ 255 := by omega
  have d1 : d ≤ 1023 := by omega
  clear a1 a2
  have hy0 : -562949953421312 ≤ x / 16384 := by omega
  have hy1 : x / 16384 < 562949953421312 := by omega
  obtain ⟨q1, hq1, hl1⟩ := apL_one (x / 16384) (3 + t) (by omega) (by omega) hy0 hy1
  obtain ⟨q2, hq2, hl2⟩ := apL_run (x / 16384) (1 + (d : Int)) (3 + t) (by omega) (by omega) hy0 hy1 (by omega) (by omega)
  have hcut := apL_cut (x / 16384) (3 + t) (by omega) (by omega)
  have HQ1 := Lib.hid hq1; have HQ2 := Lib.hid hq2; have HC := Lib.hid hcut
  clear hq1 hq2 hcut
  go_enter Try.func6, Try.ntmps6
  go_wp2_with fail
  refine (shown11_any _).mono ?_; rintro e w1 ⟨rfl, hb1⟩
  have HB1 := Lib.hid hb1; clear hb1
  go_wp2_with fail
  clear ht
  have HS := Lib.hid (two_start w1)
  go_loopw [9, 10, 11] (fun v1 v2 i wr => ∃ j : Nat, j ≤ 3 + t ∧ i = .int .i64 j ∧ Hid (TwoW w1 wr v1 v2 j (apL (x / 16384) 0 j) (apL (x / 16384) (1 + (d : Int)) j))) (fun _ _ i _ => 3 + t - (intOf i).toNat)
  case atStart => exact ⟨0, by omega, rfl, HS⟩
  case round =>
    obtain ⟨j, hj, rfl, hw⟩ := hrel
    have hz := hw.out.2.2.2.size
    have HO1 := Lib.hid hw.out.1
    by_cases hlt : j < 3 + t
    · have hm := mul_room j (1 + (d : Int)) (by omega) (by omega) (by omega)
      obtain ⟨hm0, hm1⟩ := hm
      have HE1 : Hid (apL (x / 16384) 0 (j + 1) = apL (x / 16384) 0 j ++ [x / 16384]) := Lib.hid (by rw [apL_snoc, Int.mul_zero, Int.add_zero]); have HE2 := Lib.hid (apL_snoc (x / 16384) (1 + (d : Int)) j)
      go_wp2_with (first
        | (at_builtin; refine wpList_i64x _ rfl (.tmp 27) (.tmp 30) rfl w1.heap.size _ j _ rfl (HO1.out.alloc _) _ 1 1 [_] rfl (ri_one_ats rfl) (by omega) (by simp <;> omega) ?_; intro G1 c1 w3 hown3 hgr3 hcc3 hat3; have hmid := TwoW.one hw.out hgr3 hown3 hat3; have HM1 := Lib.hid hmid.1; have HM2 := Lib.hid hmid.2.1; have HM3 := Lib.hid hmid.2.2.1; have hb3 := hmid.2.2.2; have hz3 := hb3.size; have HB3 := Lib.hid hb3; clear hmid hb3 hown3 hgr3 hat3)
        | (at_builtin; refine wpList_i64x _ rfl (.tmp 32) (.tmp 41) rfl w1.heap.size _ j _ rfl (HM2.out.alloc _) _ 1 1 [_] rfl (ri_one_ats rfl) (by omega) (by simp <;> omega) ?_; intro G2 c2 w4 hown4 hgr4 hcc4 hat4))
      have hw2 := two_mid HM1.out HM2.out HM3.out HB3.out hgr4 hown4 hat4
      rw [← HE1.out, ← HE2.out] at hw2
      have HW2 := Lib.hid hw2
      clear hw2 hown4 hgr4 hat4
      go_roundw
      case rel => exact ⟨j + 1, by omega, by go_num, HW2⟩
      case measure => simp [intOf] <;> omega
    · obtain rfl : j = 3 + t := by omega
      obtain ⟨h1, h2, _, hb⟩ := hw.out
      obtain ⟨G1, c1, rfl⟩ := own_form h1
      obtain ⟨G2, c2, rfl⟩ := own_form h2
      obtain ⟨k1, k2⟩ := own_cap h1
      obtain ⟨k3, k4⟩ := own_cap h2
      have HR1 := Lib.hid (Ri.of_own h1); have HR2 := Lib.hid (Ri.of_own h2)
      have HB := Lib.hid (on HB1.out hb)
      have HU1 := Lib.hid (apL_i64 (x / 16384) 0 (3 + t) (by omega) hy0 hy1 (by omega) (by omega))
      have HU2 := Lib.hid (apL_i64 (x / 16384) (1 + (d : Int)) (3 + t) (by omega) hy0 hy1 (by omega) (by omega))
      clear h1 h2 hb hlt hz HO1 hw HS
      generalize apL (x / 16384) 0 (3 + t) = L1 at *
      generalize apL (x / 16384) (1 + (d : Int)) (3 + t) = L2 at *
      go_wp2_with fail
      refine (PutGl_any _ _ _ _ L1 HR1.out HU1.out k1 k2 (by omega) true q1 0 HQ1.out).mono ?_; rintro e w4 ⟨G4, n4, c4, rfl, hs4, hb4⟩
      have hn4 := hs4.1.len
      have HR14 := Lib.hid (HR1.out.below hb4); have HR24 := Lib.hid (HR2.out.below hb4); have HB4 := Lib.hid (on HB.out hb4)
      have m4 : n4 ≤ 12 := by omega
      clear hs4 hb4 hn4
      go_wp2_with fail
      refine (Run_any _ _ _ _ L2 HR24.out HU2.out k3 k4 (by omega) true q2 0 HQ2.out).mono ?_; rintro e w5 ⟨G5, n5, c5, rfl, hs5, hb5⟩
      have hn5 := hs5.1.len
      have HR15 := Lib.hid (HR14.out.below hb5); have HB5 := Lib.hid (on HB4.out hb5)
      have m5 : n5 ≤ 12 := by omega
      have t5 : decide ((n5 : Int) ≤ 14) = true := decide_eq_true (by omega)
      clear hs5 hb5 hn5
      go_wp2_with fail
      refine (Cut_any _ _ _ _ L1 HR15.out k1 k2 (by omega)).mono ?_; rintro e w6 ⟨rfl, hb6⟩
      have HB6 := Lib.hid (on HB5.out hb6)
      clear hb6
      rw [HC.out, show ((3 + t : Nat) : Int) = 3 + (t : Int) from by omega]
      go_wp2_with fail
      go_ret
      exact ⟨rfl, HB6.out⟩
end Go.Proofs.Ytdhjcdkpbbbicaa

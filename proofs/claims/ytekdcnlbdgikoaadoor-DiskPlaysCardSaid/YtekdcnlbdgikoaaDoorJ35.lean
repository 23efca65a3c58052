/- Joined texts: RfL. Each has its own head line. No condition beyond those that its theorems state. -/
import Derived.Test.YtekdcnlbdgikoaaDoorJ34
import Derived.Test.YtekdcnlbdgikoaaDoorJ09
set_option linter.unusedVariables false

/- The reference's disk: Used, List, Read; Same. -/
namespace Go.Proofs.YtekdcnlbdgikoaaDoor
open Go.RowKit

theorem used_take (L : List Fl) (j : Nat) (hj : j < L.length) : usedF (L.take (j + 1)) = usedF (L.take j) + L[j].n := by
  rw [List.take_add_one, List.getElem?_eq_getElem hj]
  unfold usedF
  rw [List.map_append, List.sum_append]
  simp
theorem used_take_le (L : List Fl) (j : Nat) : usedF (L.take j) ≤ usedF L := by
  have h : usedF L = usedF (L.take j) + usedF (L.drop j) := by
    unfold usedF
    rw [← List.sum_append, ← List.map_append, List.take_append_drop]
  omega
set_option maxRecDepth 100000 in
set_option maxHeartbeats 1000000 in
theorem rUsed_any (w : World) (base y : Nat) (q lf : Int) (A : Option Addr) (c : Nat) (L : List Fl) (h : Rk w base y q lf A c L) (hlen : L.length < 1000000) (hu : usedF L ≤ 9000000000000000000) :
    Calls Tryd.prog 47 #[.pointer (some ⟨y, 0, none⟩)] w fun e w' => e = .returned (.int .i64 (usedF L)) ∧ w' = w := by
  have c2 := h.c2
  have hrow := h.addr
  clear h
  rcases hrow with rfl | ⟨h0, g, rfl, hgl, hcells⟩
  · go_enter Tryd.func47, Tryd.ntmps47
    go_wp2_with fail
    refine wp_loop_rounds 1 ?_
    rw [rounds_succ]
    go_wp2_with fail
    go_ret
    exact ⟨rfl, rfl⟩
  · obtain ⟨N, hN⟩ : ∃ N, N = L.length := ⟨_, rfl⟩
    have HL := Lib.hid hN
    rw [← hN] at hlen c2 h0
    have HC := Lib.hid hcells
    have HT := Lib.hid (used_take_le L)
    clear hcells hN
    go_enter Tryd.func47, Tryd.ntmps47
    go_wp2_with fail
    go_loopg [3, 4] N (fun gg v3 v wr => ∃ j s : Nat, v3 = .int .i64 s ∧ v = .int .i64 j ∧ j ≤ N ∧ N - j ≤ gg ∧ Hid (s = usedF (L.take j)) ∧ wr = w)
    case atStart => exact ⟨0, 0, rfl, rfl, by omega, by omega, Lib.hid rfl, rfl⟩
    case round =>
      obtain ⟨j, s, rfl, rfl, hjN, hgg, hs, rfl⟩ := hrel
      by_cases hlt : j < N
      · have t1 : decide (j < N) = true := decide_eq_true hlt
        have hj : j < L.length := by rw [← HL.out]; exact hlt
        obtain ⟨_, k1, _⟩ := HC.out j hj
        have HS : Hid (s + L[j].n = usedF (L.take (j + 1))) := Lib.hid (by rw [used_take L j hj, hs.out])
        have hsb : s + L[j].n ≤ usedF L := by rw [HS.out]; exact HT.out _
        generalize L[j] = f at k1 HS hsb
        go_wp2_with fail
        go_roundg (N - (j + 1))
        case measure => omega
        case rel => exact ⟨j + 1, s + f.n, by go_num, by go_num, by omega, by omega, HS, rfl⟩
      · have t1 : decide (j < N) = false := decide_eq_false hlt
        have HS : Hid (s = usedF L) := Lib.hid (by rw [hs.out, List.take_of_length_le (by rw [← HL.out]; omega)])
        go_wp2_with fail
        go_ret
        exact ⟨ret_int (by rw [HS.out]), rfl⟩

/-- The paths that are listed, of the first j files. -/
def rlist (L : List Fl) (dir : ByteArray) (j : Nat) : List ByteArray := ((L.take j).map Fl.p).filter fun p => dir.toList.isEmpty || belowB p dir
theorem rlist_step {L : List Fl} {dir : ByteArray} {j : Nat} (hj : j < L.length) : rlist L dir (j + 1) = if dir.toList.isEmpty || belowB L[j].p dir then rlist L dir j ++ [L[j].p] else rlist L dir j := by
  unfold rlist
  rw [List.take_add_one, List.getElem?_eq_getElem hj, List.map_append, List.filter_append]
  show _ ++ [L[j].p].filter _ = _
  cases h : (dir.toList.isEmpty || belowB L[j].p dir)
  · rw [List.filter_cons_of_neg (by rw [h]; simp)]; simp
  · rw [List.filter_cons_of_pos (by exact h)]; simp
theorem rlist_len (L : List Fl) (dir : ByteArray) (j : Nat) : (rlist L dir j).length ≤ L.length := by
  unfold rlist
  refine Nat.le_trans (List.length_filter_le _ _) ?_
  rw [List.length_map, List.length_take]
  omega
theorem rlist_all (L : List Fl) (dir : ByteArray) : rlist L dir L.length = listM (absF L) dir := by
  unfold rlist listM
  rw [List.take_of_length_le (Nat.le_refl _)]
  have e : (absF L).map Mf.p = L.map Fl.p := by unfold absF; rw [List.map_map]; rfl
  rw [e]
  cases dir.toList.isEmpty
  · simp
  · simp
set_option maxRecDepth 100000 in
set_option maxHeartbeats 2000000 in
theorem rList_any (w : World) (base y : Nat) (q lf : Int) (A : Option Addr) (c : Nat) (L : List Fl) (h : Rk w base y q lf A c L) (hlen : L.length < 1000000) (dir : ByteArray) (hd : dir.size ≤ reachBytes) :
    Calls Tryd.prog 46 #[.pointer (some ⟨y, 0, none⟩), .string dir] w (StrsOut w (listM (absF L) dir)) := by
  have c2 := h.c2
  have hy := h.lt
  have hrow := h.addr
  have HE := Lib.hid (rlist_all L dir)
  have HP : Hid (∀ f ∈ L, f.p.size ≤ maxLen) := Lib.hid fun f hf => (h.row f hf).2.2.2.2.2
  clear h
  rcases hrow with rfl | ⟨h0, g, rfl, hgl, hcells⟩
  · go_enter Tryd.func46, Tryd.ntmps46
    go_wp2_with fail
    refine wp_loop_rounds 1 ?_
    rw [rounds_succ]
    go_wp2_with fail
    go_ret
    refine ⟨_, _, _, rfl, ?_, Nat.le_refl _, Nat.zero_le _, (Below.refl _ _).alloc (Nat.le_refl _) _⟩
    rw [← HE.out]
    exact Rs.nil _ _
  · obtain ⟨N, hN⟩ : ∃ N, N = L.length := ⟨_, rfl⟩
    have HL := Lib.hid hN
    rw [← hN] at hlen c2 h0
    have HC := Lib.hid hcells
    have hc2b := c2
    clear hcells hN
    have HO := Lib.hid (own_empty w 9 1)
    have HB := Lib.hid ((Below.refl w.heap.size w).alloc (Nat.le_refl _) (.cells #[] 9))
    have HC2 := Lib.hid c2
    obtain ⟨bE, hE⟩ : ∃ bE, dir.toList.isEmpty = bE := ⟨_, rfl⟩
    have HDE := Lib.hid hE
    go_enter Tryd.func46, Tryd.ntmps46
    go_wp2_with fail
    go_loopg [5, 6] N (fun gg v5 v wr => ∃ (j k : Nat), v = .int .i64 j ∧ j ≤ N ∧ N - j ≤ gg ∧ k ≤ N ∧ Hid (wr.ownsRow w.heap.size 9 1 v5 k ((rlist L dir j).map Value.string)) ∧ Hid (Below w.heap.size w wr))
    case atStart => exact ⟨0, 0, rfl, by omega, by omega, by omega, HO, HB⟩
    case round =>
      obtain ⟨j, k, rfl, hjN, hgg, hkN, ho, hb⟩ := hrel
      obtain ⟨G, cG, hG⟩ := own_form ho.out
      subst hG
      have hz := hb.out.size
      have q2 := (hb.out.cell (p := ⟨y, 2, none⟩) hy).trans HC2.out
      by_cases hlt : j < N
      · have t1 : decide (j < N) = true := decide_eq_true hlt
        have hj : j < L.length := by rw [← HL.out]; exact hlt
        obtain ⟨k0, _, _⟩ := HC.out j hj
        have k0 := (hb.out.cell (p := ⟨g, j * 3, none⟩) hgl).trans k0
        have HS := Lib.hid (rlist_step (dir := dir) hj)
        have hpz := HP.out _ (List.getElem_mem hj)
        have hkl := rlist_len L dir (j + 1)
        generalize L[j] = f at k0 HS hpz
        have e1 : (f.p.toList == f.p.toList) = true := by simp
        obtain ⟨bI, hI⟩ : ∃ bI, belowB f.p dir = bI := ⟨_, rfl⟩
        have HI := Lib.hid hI
        have HIN := Lib.hid (in_any wr f.p dir hpz hd)
        have hs := HS.out
        rw [HDE.out, hI] at hs
        clear e1 hI
        by_cases hor : (bE || bI) = true
        · rw [if_pos hor] at hs
          have HS2 := Lib.hid hs
          have hkk : k + 1 ≤ N := by
            have h1 := ho.out.1
            have h2 := congrArg List.length hs
            rw [List.length_map] at h1
            rw [List.length_append] at h2
            simp at h1 h2
            have := HL.out
            omega
          have hob := Rs.one wr f.p 9
          have HOB := Lib.hid hob
          have HO2 := Lib.hid (ho.out.alloc (.cells #[.string f.p] 9))
          clear hs hob
          cases bE
          · obtain rfl : bI = true := by simpa using hor
            go_wp2_with fail
            refine HIN.out.mono ?_; rintro e w2 ⟨rfl, hw2⟩
            rw [hw2, HI.out]
            clear hw2 w2
            go_wp2_with (at_builtin; refine wpList_str _ rfl (.tmp 31) (.tmp 40) rfl w.heap.size _ k _ rfl HO2.out _ _ _ [f.p] rfl HOB.out (by omega) (by simp; omega) ?_; intro G2 c3 w3 ho3 hg3 _)
            have HB3 := Lib.hid (push_ hb.out (Nat.le_refl _) ho.out hg3)
            rw [← HS2.out] at ho3
            have HO3 := Lib.hid ho3
            clear ho3 hg3
            go_wp2_with fail
            go_roundg (N - (j + 1))
            case measure => omega
            case rel => exact ⟨j + 1, k + 1, by go_num, by omega, by omega, by omega, HO3, HB3⟩
          · go_wp2_with (at_builtin; refine wpList_str _ rfl (.tmp 31) (.tmp 40) rfl w.heap.size _ k _ rfl HO2.out _ _ _ [f.p] rfl HOB.out (by omega) (by simp; omega) ?_; intro G2 c3 w3 ho3 hg3 _)
            have HB3 := Lib.hid (push_ hb.out (Nat.le_refl _) ho.out hg3)
            rw [← HS2.out] at ho3
            have HO3 := Lib.hid ho3
            clear ho3 hg3
            go_wp2_with fail
            go_roundg (N - (j + 1))
            case measure => omega
            case rel => exact ⟨j + 1, k + 1, by go_num, by omega, by omega, by omega, HO3, HB3⟩
        · rw [if_neg hor] at hs
          have HS2 := Lib.hid hs
          have hor2 : bE = false ∧ bI = false := by cases bE <;> cases bI <;> simp at hor ⊢
          obtain ⟨rfl, rfl⟩ := hor2
          clear hs hor
          go_wp2_with fail
          refine HIN.out.mono ?_; rintro e w2 ⟨rfl, hw2⟩
          rw [hw2, HI.out]
          clear hw2 w2
          go_wp2_with fail
          go_roundg (N - (j + 1))
          case measure => omega
          case rel => exact ⟨j + 1, k, by go_num, by omega, by omega, hkN, by rw [HS2.out]; exact ho, hb⟩
      · have t1 : decide (j < N) = false := decide_eq_false hlt
        have hjl : j = L.length := by have := HL.out; omega
        have HEND : Hid (rlist L dir j = listM (absF L) dir) := Lib.hid (by rw [hjl]; exact HE.out)
        have hcap := own_cap ho.out
        clear hjl
        go_wp2_with fail
        go_ret
        exact ⟨_, _, _, rfl, by rw [← HEND.out]; exact Rs.of_own ho.out, hcap.1, by unfold maxLen; exact hcap.2, hb.out⟩
set_option maxRecDepth 100000 in
set_option maxHeartbeats 1000000 in
theorem rRead_any (w : World) (base y : Nat) (q lf : Int) (A : Option Addr) (c : Nat) (L : List Fl) (h : Rk w base y q lf A c L) (hlen : L.length < 1000000) (p : ByteArray) (hu : usedF L ≤ 1000000000) (b : List Int) (er : Int) (hc : readM (absF L) p = (b, er)) :
    Calls Tryd.prog 26 #[.pointer (some ⟨y, 0, none⟩), .string p] w (BytesErr w b er) := by
  have HAT := Lib.hid (at_any w base y q lf A c L h p hlen)
  unfold readM at hc
  rw [abs_find] at hc
  cases hf : findF L p with
  | none =>
    rw [hf] at hc
    injection hc with h1 h2
    have HR := Lib.hid (And.intro h1 h2)
    have HN := Lib.hid (at_none hf)
    clear h1 h2 hf h
    go_enter Tryd.func26, Tryd.ntmps26
    go_wp2_with fail
    refine HAT.out.mono ?_; rintro e w' ⟨rfl, rfl⟩
    rw [HN.out]
    go_wp2_with fail
    go_ret2
    obtain ⟨rfl, rfl⟩ := HR.out
    exact ⟨none, 0, 0, rfl, ⟨Ri.nil _ _ _, Nat.le_refl _, by simp⟩, Below.refl _ _⟩
  | some f =>
    rw [hf] at hc
    injection hc with h1 h2
    have HR := Lib.hid (And.intro h1 h2)
    obtain ⟨k, hk, hkf, hfp, hat⟩ := at_some h.sort hf
    have c2 := h.c2
    have hy := h.lt
    rcases h.addr with rfl | ⟨h0, g, rfl, hgl, hcells⟩
    · exact absurd hk (Nat.not_lt_zero _)
    obtain ⟨_, k1, _⟩ := hcells k hk
    rw [hkf] at k1
    have hrow := h.row f (findF_some hf).1
    have hfn : f.n ≤ usedF L := by
      have := (findF_some hf).1
      unfold usedF
      exact mem_le_sum _ _ (List.mem_map_of_mem this)
    have HROW := Lib.hid hrow
    have HN := Lib.hid hat
    have HO := Lib.hid (own_empty w 5 1)
    have HRB := Lib.hid (hrow.1.alloc (.cells #[] 5))
    have k0 : decide ((k : Int) < 0) = false := decide_eq_false (by omega)
    obtain ⟨N, hN⟩ : ∃ N, N = L.length := ⟨_, rfl⟩
    rw [← hN] at c2 hk hlen
    clear h1 h2 hf h hat hrow hcells hN h0
    go_enter Tryd.func26, Tryd.ntmps26
    go_wp2_with fail
    refine HAT.out.mono ?_; rintro e w' ⟨rfl, rfl⟩
    rw [HN.out]
    go_wp2_with (at_builtin; refine wpList_u8 _ rfl (.tmp 12) (.tmp 20) rfl w'.heap.size _ 0 [] rfl HO.out _ _ _ f.b rfl HRB.out (by omega) (by simp) ?_; intro G2 c3 w3 ho3 hg3 _)
    have HB3 := Lib.hid (push0 ((Below.refl w'.heap.size w').alloc (Nat.le_refl _) (.cells #[] 5)) (Nat.le_refl _) HO.out hg3)
    rw [Nat.zero_add, List.nil_append] at ho3
    have HO3 := Lib.hid ho3
    have hcap := own_cap ho3
    clear ho3 hg3
    go_wp2_with fail
    go_ret2
    obtain ⟨h1, rfl⟩ := HR.out
    refine ⟨_, _, _, rfl, ⟨?_, hcap.1, hcap.2⟩, HB3.out⟩
    rw [← h1]
    exact Ri.of_own HO3.out

/-- Two rows of texts are the same. -/
theorem rSame_any (w : World) (A B : Option Addr) (n m c c' : Nat) (l k : List ByteArray) (hl : Rs w A n l) (hk : Rs w B m k) (hn : n < 1000000) (hm : m < 1000000) :
    Calls Tryd.prog 45 #[.slice A n c, .slice B m c'] w fun e w' => e = .returned (.bool (decide (l = k))) ∧ ∃ q, w' = w.drewN q := by
  by_cases hnm : n = m
  · subst hnm
    have hA : n = 0 ∨ (0 < n ∧ (∃ b o, A = some ⟨b, o, none⟩ ∧ b < w.heap.size ∧ ∀ j (hj : j < l.length), w.cell? ⟨b, o + j, none⟩ = some (.string l[j])) ∧ (∃ b o, B = some ⟨b, o, none⟩ ∧ b < w.heap.size ∧ ∀ j (hj : j < k.length), w.cell? ⟨b, o + j, none⟩ = some (.string k[j]))) := by
      rcases Nat.eq_zero_or_pos n with h | h
      · exact .inl h
      · exact .inr ⟨h, hl.all h, hk.all h⟩
    have HLL := Lib.hid hl.len
    have HKL := Lib.hid hk.len
    clear hl hk
    rcases hA with rfl | ⟨h0, ⟨b1, o1, rfl, _, hc1⟩, ⟨b2, o2, rfl, _, hc2⟩⟩
    · have hlk : l = k := by rw [List.eq_nil_of_length_eq_zero HLL.out, List.eq_nil_of_length_eq_zero HKL.out]
      have HD := Lib.hid (decide_eq_true hlk)
      clear hlk
      go_enter Tryd.func45, Tryd.ntmps45
      go_wp2_with fail
      refine wp_loop_rounds 1 ?_
      rw [rounds_succ]
      go_wp2_with fail
      go_ret
      exact ⟨ret_bool HD.out.symm, 0, rfl⟩
    · have HC1 := Lib.hid hc1
      have HC2 := Lib.hid hc2
      clear hc1 hc2
      go_enter Tryd.func45, Tryd.ntmps45
      go_wp2_with fail
      go_loopg [5] n (fun gg v wr => ∃ j : Nat, v = .int .i64 j ∧ j ≤ n ∧ n - j ≤ gg ∧ Hid (l.take j = k.take j) ∧ ∃ q, wr = w.drewN q)
      case atStart => exact ⟨0, rfl, by omega, by omega, Lib.hid rfl, 0, rfl⟩
      case round =>
        obtain ⟨j, rfl, hjN, hgg, hs, q, rfl⟩ := hrel
        by_cases hlt : j < n
        · have t1 : decide (j < n) = true := decide_eq_true hlt
          have hj1 : j < l.length := by rw [HLL.out]; exact hlt
          have hj2 : j < k.length := by rw [HKL.out]; exact hlt
          have k1 := HC1.out j hj1
          have k2 := HC2.out j hj2
          obtain ⟨x, hx⟩ : ∃ x, x = l[j] := ⟨_, rfl⟩
          obtain ⟨z, hz⟩ : ∃ z, z = k[j] := ⟨_, rfl⟩
          rw [← hx] at k1
          rw [← hz] at k2
          have HX := Lib.hid hx; have HZ := Lib.hid hz
          clear hx hz
          by_cases he : x = z
          · have HS : Hid (l.take (j + 1) = k.take (j + 1)) := Lib.hid (by
              rw [List.take_add_one, List.take_add_one, List.getElem?_eq_getElem hj1, List.getElem?_eq_getElem hj2, hs.out, ← HX.out, ← HZ.out, he])
            subst he
            have e1 : (x.toList != x.toList) = false := by simp
            go_wp2_with fail
            go_quiet (fail)
            go_wp2_with fail
            go_roundg (n - (j + 1))
            case measure => omega
            case rel => exact ⟨j + 1, by go_num, by omega, by omega, HS, _, rfl⟩
          · have e0 : (x.toList == z.toList) = false := by rw [str_beq]; exact decide_eq_false he
            have e1 : (x.toList != z.toList) = true := by rw [bne, e0]; rfl
            have hlk : l ≠ k := fun e => he (by rw [HX.out, HZ.out]; simp only [e])
            have HD := Lib.hid (decide_eq_false hlk)
            clear hlk he
            go_wp2_with fail
            go_quiet (fail)
            go_wp2_with fail
            go_ret
            exact ⟨ret_bool HD.out.symm, q + nq, by simp⟩
        · have t1 : decide (j < n) = false := decide_eq_false hlt
          have hlk : l = k := by
            have := hs.out
            rwa [List.take_of_length_le (by rw [HLL.out]; omega), List.take_of_length_le (by rw [HKL.out]; omega)] at this
          have HD := Lib.hid (decide_eq_true hlk)
          clear hlk
          go_wp2_with fail
          go_ret
          exact ⟨ret_bool HD.out.symm, _, rfl⟩
  · have hlk : l ≠ k := fun e => hnm (by rw [← hl.len, ← hk.len, e])
    have HD := Lib.hid (decide_eq_false hlk)
    have t1 : ((n : Int) != m) = true := by simp; omega
    clear hlk hl hk
    go_enter Tryd.func45, Tryd.ntmps45
    go_wp2_with fail
    go_ret
    exact ⟨ret_bool HD.out.symm, 0, rfl⟩
end Go.Proofs.YtekdcnlbdgikoaaDoor

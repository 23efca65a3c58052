/- Joined texts: LawTx2. Each has its own head line. No condition beyond those that its theorems state. -/
import Derived.Deep.DeepCutAuto
import Derived.Test.YtmejoococajikaaJ47
set_option linter.unusedVariables false

/- The walk through TextsWords. -/
namespace Go.Proofs.Ytmejoococajikaa
open Go.RowKit

/-- Whether a text is among others. -/
def inB (x : ByteArray) (l : List ByteArray) : Bool := l.any fun y => decide (y = x)
theorem inB_true {x : ByteArray} {l : List ByteArray} : inB x l = true ↔ x ∈ l := by
  unfold inB
  rw [List.any_eq_true]
  exact ⟨fun ⟨y, h1, h2⟩ => of_decide_eq_true h2 ▸ h1, fun h => ⟨x, h, decide_eq_true rfl⟩⟩
theorem inB_false {x : ByteArray} {l : List ByteArray} : inB x l = false ↔ x ∉ l := by
  rw [← inB_true]
  simp
theorem mem_take_step {l : List ByteArray} {j : Nat} (hj : j < l.length) (x : ByteArray) : x ∈ l.take (j + 1) ↔ x ∈ l.take j ∨ l[j] = x := by
  rw [List.take_succ_eq_append_getElem hj, List.mem_append, List.mem_singleton]
  exact ⟨fun h => h.imp id Eq.symm, fun h => h.imp id Eq.symm⟩
set_option maxRecDepth 100000 in
set_option maxHeartbeats 4000000 in
theorem TextsWords_walk (w : World) (A : Option Addr) (n cap : Nat) (l : List ByteArray) (hl : Rs w A n l) (_hs : ∀ s ∈ l, s.size ≤ maxLen) (hc : n ≤ cap) (hm : cap ≤ maxLen) :
    Calls Try.prog 3 #[.slice A n cap] w fun e w' => e = .returned (.bool true) ∧ Below w.heap.size w w' := by
  unfold maxLen at hm
  have HL := Lib.hid hl
  have HA : Hid (0 < n → ∃ b o, A = some ⟨b, o, none⟩) := Lib.hid fun h => by
    obtain ⟨b, o, e, _⟩ := hl.all h
    exact ⟨b, o, e⟩
  clear hl
  go_enter Try.func3, Try.ntmps3
  go_wp2_with fail
  refine (shown15_any w).mono ?_; rintro e w1 ⟨rfl, hb1⟩
  have HL1 := Lib.hid (HL.out.below hb1)
  have HB1 := Lib.hid hb1
  clear hb1
  go_upto_if 14 with fail
  go_cut [0] (fun v wx => ∃ (A1 : Option Addr) (m1 c1 : Nat) (L : List ByteArray), v = .slice A1 m1 c1 ∧ m1 ≤ 300 ∧ Hid (Rs w1 A1 m1 L) ∧ wx = w1)
  case first =>
    by_cases h3 : 300 < n
    · obtain ⟨b, o, rfl⟩ := HA.out (by omega)
      have t1 : decide (300 < n) = true := decide_eq_true h3
      have t2 : (300 : Int) ≤ (cap : Int) := by omega
      have HF := Lib.hid (HL1.out.first (m := 300) (by omega))
      go_wp2_with fail
      go_meet
      exact ⟨_, _, _, _, rfl, by omega, HF, rfl⟩
    · have t1 : decide (300 < n) = false := decide_eq_false h3
      go_wp2_with fail
      go_meet
      exact ⟨_, _, _, _, rfl, by omega, HL1, rfl⟩
  case rest =>
  obtain ⟨A1, m1, c1, L, rfl, hm3, hrl, rfl⟩ := hcut
  go_wp2_with fail
  refine (Words_any wc A1 m1 c1 L hrl.out (by omega)).mono ?_; rintro e w2 ⟨G, k, c2, W, rfl, hr2, hw2, hk2, _, _, hb2⟩
  have HB2 := Lib.hid (on HB1.out hb2)
  have HRL := Lib.hid (hrl.out.below hb2)
  have HIW := Lib.hid hw2
  have hLl := hrl.out.len
  have hWl := hr2.len
  have HAL := Lib.hid (fun h0 => HRL.out.all h0)
  have HAW := Lib.hid (fun h0 => hr2.all h0)
  clear hr2 hw2 hb2
  go_wp2_with fail
  go_loopg [5] k (fun gg v wr => ∃ i : Nat, v = .int .i64 i ∧ i ≤ k ∧ k - i ≤ gg ∧ ∃ q, wr = w2.drewN q)
  case atStart => exact ⟨0, rfl, by omega, by omega, 0, rfl⟩
  case round =>
  obtain ⟨i, rfl, hik, hgi, q, rfl⟩ := hrel
  by_cases hlt : i < k
  · have t1 : decide (i < k) = true := decide_eq_true hlt
    obtain ⟨bw, ow, hG, hbw, hcw⟩ := HAW.out (by omega)
    have hi : i < W.length := by omega
    have ci := hcw i hi
    have HXM := Lib.hid ((HIW.out.mem _).1 (List.getElem_mem hi))
    have HPRE : Hid (∀ j (hj : j < W.length), i = j + 1 → w2.cell? ⟨bw, ow + j, none⟩ = some (.string W[j]) ∧ W[j].data.toList < W[i].data.toList) := Lib.hid fun j hj e => ⟨hcw j hj, List.pairwise_iff_getElem.1 HIW.out.up j i hj hi (by omega)⟩
    generalize W[i] = x at ci HXM HPRE
    subst hG
    clear hcw
    go_wp2_with fail
    go_loopg [6, 7] m1 (fun gg v6 v wr => ∃ j : Nat, v = .int .i64 j ∧ j ≤ m1 ∧ m1 - j ≤ gg ∧ v6 = .bool (inB x (L.take j)) ∧ ∃ q, wr = w2.drewN q)
    case atStart => exact ⟨0, rfl, by omega, by omega, rfl, q, rfl⟩
    case round =>
    obtain ⟨j, rfl, hjm, hgj, rfl, q2, rfl⟩ := hrel
    obtain ⟨fb, hfb⟩ : ∃ fb, inB x (L.take j) = fb := ⟨_, rfl⟩
    rw [hfb]
    have HFB := Lib.hid hfb
    clear hfb
    by_cases hltj : j < m1
    · have t2 : decide (j < m1) = true := decide_eq_true hltj
      obtain ⟨bl, ol, rfl, hbl, hcl⟩ := HAL.out (by omega)
      have hj : j < L.length := by omega
      have cj := hcl j hj
      have HST := Lib.hid (mem_take_step hj x)
      generalize L[j] = z at cj HST
      clear hcl
      cases fb
      · by_cases he : z = x
        · have e1 : (z.toList == x.toList) = true := by rw [str_beqT]; exact decide_eq_true he
          have HN : Hid (inB x (L.take (j + 1)) = true) := Lib.hid (inB_true.2 (HST.out.2 (.inr he)))
          clear he
          go_wp2_with fail
          go_quiet (fail)
          go_wp2_with fail
          go_roundg (m1 - (j + 1))
          case measure => omega
          case rel => exact ⟨j + 1, by go_num, by omega, by omega, by rw [HN.out], _, rfl⟩
        · have e1 : (z.toList == x.toList) = false := by rw [str_beqT]; exact decide_eq_false he
          have HN : Hid (inB x (L.take (j + 1)) = false) := Lib.hid (inB_false.2 fun h => (HST.out.1 h).elim (inB_false.1 HFB.out) he)
          clear he
          go_wp2_with fail
          go_quiet (fail)
          go_wp2_with fail
          go_roundg (m1 - (j + 1))
          case measure => omega
          case rel => exact ⟨j + 1, by go_num, by omega, by omega, by rw [HN.out], _, rfl⟩
      · have HN : Hid (inB x (L.take (j + 1)) = true) := Lib.hid (inB_true.2 (HST.out.2 (.inl (inB_true.1 HFB.out))))
        go_wp2_with fail
        go_quiet (fail)
        go_wp2_with fail
        go_roundg (m1 - (j + 1))
        case measure => omega
        case rel => exact ⟨j + 1, by go_num, by omega, by omega, by rw [HN.out], _, rfl⟩
    have t2 : decide (j < m1) = false := decide_eq_false hltj
    have hft : fb = true := by
      rw [← HFB.out, List.take_of_length_le (by omega)]
      exact inB_true.2 HXM.out
    subst hft
    by_cases hi0 : i = 0
    · have t3 : decide (0 < i) = false := decide_eq_false (by omega)
      go_wp2_with fail
      go_quiet (fail)
      go_wp2_with fail
      go_roundg (k - (i + 1))
      case measure => omega
      case rel => exact ⟨i + 1, by go_num, by omega, by omega, _, rfl⟩
    · obtain ⟨p, rfl⟩ : ∃ p, i = p + 1 := ⟨i - 1, by omega⟩
      have hp : p < W.length := by omega
      obtain ⟨cp, hlp⟩ := HPRE.out p hp rfl
      generalize W[p] = y at cp hlp
      have t3 : decide (0 < p + 1) = true := decide_eq_true (by omega)
      have e1 : Op.bytesLess y.toList x.toList = true := by rw [less_ltT]; exact decide_eq_true hlp
      have e2 : (y.toList == x.toList) = false := by rw [str_beqT]; exact decide_eq_false fun h => List.lt_irrefl _ (h ▸ hlp)
      clear hlp
      go_wp2_with fail
      go_quiet (fail)
      go_wp2_with fail
      go_roundg (k - (p + 1 + 1))
      case measure => omega
      case rel => exact ⟨p + 1 + 1, by go_num, by omega, by omega, _, rfl⟩
  have t1 : decide (i < k) = false := decide_eq_false hlt
  go_wp2_with fail
  go_loopg [8] m1 (fun gg v wr => ∃ i : Nat, v = .int .i64 i ∧ i ≤ m1 ∧ m1 - i ≤ gg ∧ ∃ q, wr = w2.drewN q)
  case atStart => exact ⟨0, rfl, by omega, by omega, q, rfl⟩
  case round =>
  obtain ⟨i, rfl, him, hgi, q, rfl⟩ := hrel
  by_cases hlt : i < m1
  · have t1 : decide (i < m1) = true := decide_eq_true hlt
    obtain ⟨bl, ol, hA1, hbl, hcl⟩ := HAL.out (by omega)
    have hi : i < L.length := by omega
    have ci := hcl i hi
    have HXM := Lib.hid ((HIW.out.mem _).2 (List.getElem_mem hi))
    generalize L[i] = x at ci HXM
    subst hA1
    clear hcl
    go_wp2_with fail
    go_loopg [9, 10] k (fun gg v9 v wr => ∃ j : Nat, v = .int .i64 j ∧ j ≤ k ∧ k - j ≤ gg ∧ v9 = .bool (inB x (W.take j)) ∧ ∃ q, wr = w2.drewN q)
    case atStart => exact ⟨0, rfl, by omega, by omega, rfl, q, rfl⟩
    case round =>
    obtain ⟨j, rfl, hjm, hgj, rfl, q2, rfl⟩ := hrel
    obtain ⟨fb, hfb⟩ : ∃ fb, inB x (W.take j) = fb := ⟨_, rfl⟩
    rw [hfb]
    have HFB := Lib.hid hfb
    clear hfb
    by_cases hltj : j < k
    · have t2 : decide (j < k) = true := decide_eq_true hltj
      obtain ⟨bw, ow, rfl, hbw, hcw⟩ := HAW.out (by omega)
      have hj : j < W.length := by omega
      have cj := hcw j hj
      have HST := Lib.hid (mem_take_step hj x)
      generalize W[j] = z at cj HST
      clear hcw
      cases fb
      · by_cases he : z = x
        · have e1 : (x.toList == z.toList) = true := by rw [str_beqT]; exact decide_eq_true he.symm
          have HN : Hid (inB x (W.take (j + 1)) = true) := Lib.hid (inB_true.2 (HST.out.2 (.inr he)))
          clear he
          go_wp2_with fail
          go_quiet (fail)
          go_wp2_with fail
          go_roundg (k - (j + 1))
          case measure => omega
          case rel => exact ⟨j + 1, by go_num, by omega, by omega, by rw [HN.out], _, rfl⟩
        · have e1 : (x.toList == z.toList) = false := by rw [str_beqT]; exact decide_eq_false fun h => he h.symm
          have HN : Hid (inB x (W.take (j + 1)) = false) := Lib.hid (inB_false.2 fun h => (HST.out.1 h).elim (inB_false.1 HFB.out) he)
          clear he
          go_wp2_with fail
          go_quiet (fail)
          go_wp2_with fail
          go_roundg (k - (j + 1))
          case measure => omega
          case rel => exact ⟨j + 1, by go_num, by omega, by omega, by rw [HN.out], _, rfl⟩
      · have HN : Hid (inB x (W.take (j + 1)) = true) := Lib.hid (inB_true.2 (HST.out.2 (.inl (inB_true.1 HFB.out))))
        go_wp2_with fail
        go_quiet (fail)
        go_wp2_with fail
        go_roundg (k - (j + 1))
        case measure => omega
        case rel => exact ⟨j + 1, by go_num, by omega, by omega, by rw [HN.out], _, rfl⟩
    have t2 : decide (j < k) = false := decide_eq_false hltj
    have hft : fb = true := by
      rw [← HFB.out, List.take_of_length_le (by omega)]
      exact inB_true.2 HXM.out
    subst hft
    go_wp2_with fail
    go_roundg (m1 - (i + 1))
    case measure => omega
    case rel => exact ⟨i + 1, by go_num, by omega, by omega, _, rfl⟩
  have t1 : decide (i < m1) = false := decide_eq_false hlt
  go_wp2_with fail
  go_ret
  exact ⟨rfl, bdN HB2.out q⟩
end Go.Proofs.Ytmejoococajikaa

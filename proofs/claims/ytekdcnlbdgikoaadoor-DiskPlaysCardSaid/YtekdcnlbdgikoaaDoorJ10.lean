/- Joined texts: CloneB, DkR. Each has its own head line. No condition beyond those that its theorems state. -/
import Derived.Test.YtekdcnlbdgikoaaDoorJ09
import Derived.Test.YtekdcnlbdgikoaaDoorJ08
set_option linter.unusedVariables false

/- bytes.Clone. -/
namespace Go.Proofs.YtekdcnlbdgikoaaDoor
open Go.RowKit

set_option maxRecDepth 100000 in
set_option maxHeartbeats 400000 in
theorem bytesClone_any (A : Option Addr) (n cap : Nat) (l : List Int) (w : World) (hr : Ri w .u8 A n l) (hn : n ≤ 1000000000) :
    Calls Tryd.prog 29 #[.slice A n cap] w (BytesOut w l) := by
  obtain ⟨i0, hi, hz0, hz1, hz2⟩ := info_parts info_u8
  have q := fun (w : World) (a : Option Addr) (n c : Nat) => Lib.run_eql_slice_nil (P := Tryd.prog) w 22 5 a n c 0 0 Tryd.underlying22
  have HR := Lib.hid hr; clear hr
  cases A with
  | none =>
    have hn0 : n = 0 := by
      rcases Nat.eq_zero_or_pos n with h | h
      · exact h
      · obtain ⟨b, o, e, _⟩ := HR.out.all h; cases e
    subst hn0
    have hl : l = [] := List.eq_nil_of_length_eq_zero HR.out.len
    subst hl
    go_enter Tryd.func29, Tryd.ntmps29
    go_wp2_with fail
    go_ret
    exact ⟨none, 0, 0, rfl, Sl.nil _ _, Below.refl _ _⟩
  | some a =>
    go_enter Tryd.func29, Tryd.ntmps29
    go_wp2_with (at_builtin; refine wpList_append_any _ rfl _ _ 22 rfl w.heap.size 5 i0 (.int .u8 0) 1 1 Tryd.underlying22 hi hz0 hz1 hz2 rfl (by decide) _ 0 [] rfl (own_empty w _ 1) _ n _ (l.map (Value.int .u8)) rfl (HR.out.alloc _) (Ri.oneCell _ _) ?c2 ?c3 ?c4 ?_)
    case c2 => unfold maxLen; omega
    case c3 => omega
    case c4 => simp
    intro G c w1 hown hgr _ _
    have HO := Lib.hid hown; clear hown
    go_wp2_with fail
    go_ret
    exact ⟨G, n, c, rfl, Sl.of_own HO.out, push0 ((Below.refl _ _).alloc (Nat.le_refl _) _) (Nat.le_refl _) (own_empty w _ 1) hgr⟩
end Go.Proofs.YtekdcnlbdgikoaaDoor

/- disk.Read. -/
namespace Go.Proofs.YtekdcnlbdgikoaaDoor
open Go.RowKit

theorem mem_le_sum (l : List Nat) (x : Nat) (h : x ∈ l) : x ≤ l.sum := by
  induction l with
  | nil => cases h
  | cons y r ih =>
    rw [List.sum_cons]
    rcases List.mem_cons.1 h with rfl | k
    · omega
    · have := ih k; omega
def readM (M : List Mf) (p : ByteArray) : List Int × Int := match findM M p with
  | none => ([], 11)
  | some f => (f.b, 0)
set_option maxRecDepth 100000 in
set_option maxHeartbeats 1000000 in
theorem Read_any (w : World) (d B : Nat) (q lf : Int) (M : List Mf) (h : Da w d B q lf M) (p : ByteArray) (hp : p.size ≤ maxLen) (hlen : usedM M ≤ 1000000000) (b : List Int) (er : Int) (hc : readM M p = (b, er)) :
    Calls Tryd.prog 14 #[.pointer (some ⟨d, 0, none⟩), .string p] w (BytesErr w b er) := by
  obtain ⟨L, rfl, hk⟩ := h
  have c2 := hk.c2
  have HD := Lib.hid hk
  unfold readM at hc
  clear hk
  rw [abs_find] at hc
  cases hf : findF L p with
  | none =>
    rw [hf] at hc
    injection hc with h1 h2
    have HR := Lib.hid (And.intro h1 h2)
    have HF := Lib.hid (file_no hf)
    have HI : Hid ((findF L p).isSome = false) := by rw [hf]; exact Lib.hid rfl
    clear h1 h2 hf
    go_enter Tryd.func14, Tryd.ntmps14
    go_wp2_with (at_lookup; refine wpList_look_file _ rfl _ _ rfl B L.length L rfl HD.out.own p rfl hp _ _ HF.out HI.out ?_)
    go_ret2
    obtain ⟨rfl, rfl⟩ := HR.out
    exact ⟨none, 0, 0, rfl, ⟨Ri.nil _ _ _, Nat.le_refl _, by simp⟩, (Below.refl _ _).alloc (Nat.le_refl _) _⟩
  | some f =>
    rw [hf] at hc
    injection hc with h1 h2
    have HR := Lib.hid (And.intro h1 h2)
    have HF := Lib.hid (file_at hf)
    have HI : Hid ((findF L p).isSome = true) := by rw [hf]; exact Lib.hid rfl
    have HM := Lib.hid (findF_some hf)
    have hrow := HD.out.row f (findF_some hf).1
    have hfn : f.n ≤ usedF L := by
      have := (findF_some hf).1
      unfold usedF
      exact mem_le_sum _ _ (List.mem_map_of_mem this)
    rw [← abs_used HD.out.row] at hlen
    have HROW := Lib.hid hrow
    clear h1 h2 hf hrow
    go_enter Tryd.func14, Tryd.ntmps14
    go_wp2_with (at_lookup; refine wpList_look_file _ rfl _ _ rfl B L.length L rfl HD.out.own p rfl hp _ _ HF.out HI.out ?_)
    refine (bytesClone_any _ _ _ f.b _ (HROW.out.1.alloc _) (by omega)).mono ?_; rintro e w2 ⟨G, n2, c3, rfl, hs, hb⟩
    go_wp2_with fail
    go_ret2
    obtain ⟨h1, rfl⟩ := HR.out
    exact ⟨G, n2, c3, rfl, by rw [← h1]; exact hs, on ((Below.refl _ _).alloc (Nat.le_refl _) _) hb⟩
end Go.Proofs.YtekdcnlbdgikoaaDoor

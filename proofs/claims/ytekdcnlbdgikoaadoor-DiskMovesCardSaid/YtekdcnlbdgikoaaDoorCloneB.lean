/- bytes.Clone. -/
import Derived.Test.YtekdcnlbdgikoaaDoorBase
namespace Go.Proofs.YtekdcnlbdgikoaaDoor
open Go.RowKit

set_option maxRecDepth 100000 in
set_option maxHeartbeats 400000 in
theorem bytesClone_any (A : Option Addr) (n cap : Nat) (l : List Int) (w : World) (hr : Ri w .u8 A n l) (hn : n ≤ 1000000000) :
    Calls Tryd.prog 29 #[.slice A n cap] w (BytesOut w l) := by
  obtain ⟨i0, hi, hz0, hz1, hz2⟩ := info_parts info_u8
  have q := fun (w : World) (a : Option Addr) (n c : Nat) => Lib.run_eql_slice_nil (P := Tryd.prog) w 22 5 a n c 0 0 Tryd.underlying22
  have HR := Lib.hid hr; clear hr
  cases A with
  | none =>
    have hn0 : n = 0 := by
      rcases Nat.eq_zero_or_pos n with h | h
      · exact h
      · obtain ⟨b, o, e, _⟩ := HR.out.all h; cases e
    subst hn0
    have hl : l = [] := List.eq_nil_of_length_eq_zero HR.out.len
    subst hl
    go_enter Tryd.func29, Tryd.ntmps29
    go_wp2_with fail
    go_ret
    exact ⟨none, 0, 0, rfl, Sl.nil _ _, Below.refl _ _⟩
  | some a =>
    go_enter Tryd.func29, Tryd.ntmps29
    go_wp2_with (at_builtin; refine wpList_append_any _ rfl _ _ 22 rfl w.heap.size 5 i0 (.int .u8 0) 1 1 Tryd.underlying22 hi hz0 hz1 hz2 rfl (by decide) _ 0 [] rfl (own_empty w _ 1) _ n _ (l.map (Value.int .u8)) rfl (HR.out.alloc _) (Ri.oneCell _ _) ?c2 ?c3 ?c4 ?_)
    case c2 => unfold maxLen; omega
    case c3 => omega
    case c4 => simp
    intro G c w1 hown hgr _ _
    have HO := Lib.hid hown; clear hown
    go_wp2_with fail
    go_ret
    exact ⟨G, n, c, rfl, Sl.of_own HO.out, push0 ((Below.refl _ _).alloc (Nat.le_refl _) _) (Nat.le_refl _) (own_empty w _ 1) hgr⟩
end Go.Proofs.YtekdcnlbdgikoaaDoor

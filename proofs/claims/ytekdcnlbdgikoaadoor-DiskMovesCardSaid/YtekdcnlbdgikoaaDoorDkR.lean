/- disk.Read. -/
import Derived.Test.YtekdcnlbdgikoaaDoorDkS
import Derived.Test.YtekdcnlbdgikoaaDoorCloneB
namespace Go.Proofs.YtekdcnlbdgikoaaDoor
open Go.RowKit

theorem mem_le_sum (l : List Nat) (x : Nat) (h : x ∈ l) : x ≤ l.sum := by
  induction l with
  | nil => cases h
  | cons y r ih =>
    rw [List.sum_cons]
    rcases List.mem_cons.1 h with rfl | k
    · omega
    · have := ih k; omega
def readM (M : List Mf) (p : ByteArray) : List Int × Int := match findM M p with
  | none => ([], 11)
  | some f => (f.b, 0)
set_option maxRecDepth 100000 in
set_option maxHeartbeats 1000000 in
theorem Read_any (w : World) (d B : Nat) (q lf : Int) (M : List Mf) (h : Da w d B q lf M) (p : ByteArray) (hp : p.size ≤ maxLen) (hlen : usedM M ≤ 1000000000) (b : List Int) (er : Int) (hc : readM M p = (b, er)) :
    Calls Tryd.prog 14 #[.pointer (some ⟨d, 0, none⟩), .string p] w (BytesErr w b er) := by
  obtain ⟨L, rfl, hk⟩ := h
  have c2 := hk.c2
  have HD := Lib.hid hk
  unfold readM at hc
  clear hk
  rw [abs_find] at hc
  cases hf : findF L p with
  | none =>
    rw [hf] at hc
    injection hc with h1 h2
    have HR := Lib.hid (And.intro h1 h2)
    have HF := Lib.hid (file_no hf)
    have HI : Hid ((findF L p).isSome = false) := by rw [hf]; exact Lib.hid rfl
    clear h1 h2 hf
    go_enter Tryd.func14, Tryd.ntmps14
    go_wp2_with (at_lookup; refine wpList_look_file _ rfl _ _ rfl B L.length L rfl HD.out.own p rfl hp _ _ HF.out HI.out ?_)
    go_ret2
    obtain ⟨rfl, rfl⟩ := HR.out
    exact ⟨none, 0, 0, rfl, ⟨Ri.nil _ _ _, Nat.le_refl _, by simp⟩, (Below.refl _ _).alloc (Nat.le_refl _) _⟩
  | some f =>
    rw [hf] at hc
    injection hc with h1 h2
    have HR := Lib.hid (And.intro h1 h2)
    have HF := Lib.hid (file_at hf)
    have HI : Hid ((findF L p).isSome = true) := by rw [hf]; exact Lib.hid rfl
    have HM := Lib.hid (findF_some hf)
    have hrow := HD.out.row f (findF_some hf).1
    have hfn : f.n ≤ usedF L := by
      have := (findF_some hf).1
      unfold usedF
      exact mem_le_sum _ _ (List.mem_map_of_mem this)
    rw [← abs_used HD.out.row] at hlen
    have HROW := Lib.hid hrow
    clear h1 h2 hf hrow
    go_enter Tryd.func14, Tryd.ntmps14
    go_wp2_with (at_lookup; refine wpList_look_file _ rfl _ _ rfl B L.length L rfl HD.out.own p rfl hp _ _ HF.out HI.out ?_)
    refine (bytesClone_any _ _ _ f.b _ (HROW.out.1.alloc _) (by omega)).mono ?_; rintro e w2 ⟨G, n2, c3, rfl, hs, hb⟩
    go_wp2_with fail
    go_ret2
    obtain ⟨h1, rfl⟩ := HR.out
    exact ⟨G, n2, c3, rfl, by rw [← h1]; exact hs, on ((Below.refl _ _).alloc (Nat.le_refl _) _) hb⟩
end Go.Proofs.YtekdcnlbdgikoaaDoor

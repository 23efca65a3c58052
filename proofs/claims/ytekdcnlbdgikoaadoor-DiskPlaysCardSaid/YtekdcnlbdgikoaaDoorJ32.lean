/- Joined texts: RfI. Each has its own head line. No condition beyond those that its theorems state. -/
import Derived.Test.YtekdcnlbdgikoaaDoorJ31
set_option linter.unusedVariables false

/- The reference's disk: in. -/
namespace Go.Proofs.YtekdcnlbdgikoaaDoor
open Go.RowKit

def slashS : ByteArray := ⟨#[47]⟩
/-- in, as the reference reckons it. -/
def inB (p d : ByteArray) : Bool := decide (d.size + 1 < p.size) && ((p.extract 0 (d.size + 1)).toList == (d ++ slashS).toList)
theorem size_list (s : ByteArray) : s.size = s.data.toList.length := by rw [Array.length_toList]; rfl
theorem in_below (p d : ByteArray) : inB p d = belowB p d := by
  have hP := size_list p
  have hD := size_list d
  have hR := size_list (restB p d)
  rw [rest_list] at hR
  unfold inB belowB underB
  rw [str_beq, Bool.eq_iff_iff]
  simp only [Bool.and_eq_true, decide_eq_true_eq, Bool.or_eq_true, Bool.not_eq_true', ByteArray.toList_eq, rest_list, hR]
  rw [hP, hD]
  have ext : (p.extract 0 (d.data.toList.length + 1) = d ++ slashS) ↔ p.data.toList.take (d.data.toList.length + 1) = d.data.toList ++ [47] := by
    constructor
    · intro h
      have := congrArg (fun s : ByteArray => s.data.toList) h
      rw [Lib.extract_from_zero, app_list] at this
      exact this
    · intro h
      refine bytes_ext ?_
      rw [Lib.extract_from_zero, app_list]
      exact h
  rw [ext]
  generalize p.data.toList = P
  generalize d.data.toList = D
  unfold Lib.trimPrefix Lib.hasPrefix
  by_cases hb : D.isPrefixOf P = true
  · obtain ⟨R, rfl⟩ := List.isPrefixOf_iff_prefix.1 hb
    rw [if_pos hb, List.drop_left, List.length_append, List.take_append, List.take_of_length_le (by omega), show D.length + 1 - D.length = 1 from by omega]
    constructor
    · rintro ⟨h1, h2⟩
      have h4 := List.append_cancel_left h2
      match R, h4, h1 with
      | x :: t, h4, h1 =>
        simp at h4
        subst h4
        simp at h1
        exact ⟨⟨hb, .inr ⟨by simp; omega, rfl⟩⟩, rfl⟩
    · rintro ⟨⟨_, h2⟩, h3⟩
      rcases h2 with h2 | ⟨h2, h4⟩
      · rw [h2] at h3; cases h3
      · refine ⟨by omega, ?_⟩
        match R, h2, h4 with
        | x :: t, _, h4 =>
          simp at h4
          subst h4
          rfl
  · constructor
    · rintro ⟨h1, h2⟩
      refine absurd ?_ hb
      rw [List.isPrefixOf_iff_prefix]
      refine ⟨P.drop D.length, ?_⟩
      have h3 : P.take D.length = D := by
        have := congrArg (List.take D.length) h2
        rw [List.take_take, List.take_left, Nat.min_eq_left (by omega)] at this
        exact this
      rw [← h3, List.length_take, Nat.min_eq_left (by omega)]
      exact List.take_append_drop _ _
    · rintro ⟨⟨h, _⟩, _⟩
      exact absurd h hb
set_option maxRecDepth 100000 in
set_option maxHeartbeats 1000000 in
theorem in_any (w : World) (p d : ByteArray) (hp : p.size ≤ maxLen) (hd : d.size ≤ reachBytes) :
    Calls Tryd.prog 61 #[.string p, .string d] w fun e w' => e = .returned (.bool (belowB p d)) ∧ w' = w := by
  have hr := reachBytes_lt
  have hI := in_below p d
  unfold inB at hI
  unfold maxLen at hp
  obtain ⟨u, hu⟩ : ∃ u, belowB p d = u := ⟨_, rfl⟩
  rw [hu] at hI ⊢
  clear hu
  by_cases h1 : d.size + 1 < p.size
  · have t1 : decide ((d.size : Int) + 1 < p.size) = true := decide_eq_true (by omega)
    obtain ⟨z, hz⟩ : ∃ z, ((p.extract 0 (d.size + 1)).toList == (d ++ slashS).toList) = z := ⟨_, rfl⟩
    rw [decide_eq_true h1, hz, Bool.true_and] at hI
    subst hI
    have hz2 : ((p.extract 0 (d.size + 1)).toList == (d ++ ⟨#[47]⟩).toList) = z := hz
    have happ : d.size + (⟨#[47]⟩ : ByteArray).size ≤ maxLen := by have : (⟨#[47]⟩ : ByteArray).size = 1 := rfl; unfold maxLen; omega
    clear hz
    go_enter Tryd.func61, Tryd.ntmps61
    go_wp2_with fail
    go_ret
    exact ⟨rfl, rfl⟩
  · have t1 : decide ((d.size : Int) + 1 < p.size) = false := decide_eq_false (by omega)
    rw [decide_eq_false h1, Bool.false_and] at hI
    subst hI
    go_enter Tryd.func61, Tryd.ntmps61
    go_wp2_with fail
    go_ret
    exact ⟨rfl, rfl⟩
end Go.Proofs.YtekdcnlbdgikoaaDoor

/-
  No cell of these rows narrows 'for every input' (looked for: loops, veiled, ifaces, maps, wideKeys, modest, calm, conditions, laid).
  DERIVED. THE GIVEN ROWS OF THIS SEAT. 4 by the template 'for every input the law returns true; each argument reads behind the call as it read before'; 0 by the template 'total and deterministic' (their statements: YtmejoococajikaaTotals.lean).
  GIVEN WITH THE SEED: the statements are not yours to turn. If you find one false, say at which input.
  Laid BY PROGRAM, IN A SANDBOX (cutbox-rows.mjs): the forced cells as the released guide's own fill.sh prints them over the translation 8c77ba6c965019d8… (all of the seat's roots in one cut). By AI agents, Wed Nov 11 2026. No macro, syntax, notation, axiom, sorry.
-/
import Derived.Test.YtmejoococajikaaChecked
import GoSem.Claim
import GoSem.ClaimJoined
import GoSem.ClaimMapViews
import Derived.JoinedTies
import Derived.KernelRfl
namespace Go.Proofs.Ytmejoococajikaa
/- THE CELL 'sum', in the pinned program and in every row, IS THE sha256 OF THE DUMP (.gsa) THAT YtmejoococajikaaProg.lean LOADS. Nothing in Lean hashes anything: it is a label: what it is worth is what the hold of that sum in a sandbox is worth. -/
noncomputable def Try.pinned : Pinned := { name := "ytmejoococajikaa", sum := "8c77ba6c965019d8a71c60c5da0af84536c1c2a942785dac6594b062a1a7ac0f", checked := Try.checked }
namespace Rows
def none {H : Type} : Left H := { results := [], args := [] }

/-- 'pilasterlaw15.TextsWords': WHATEVER THE INPUT: true; the input reads as it did. -/
def textsWordsSpec : ChangeSpec := { name := "textsWords", fn := fun _ => fun
  | [d] => { results := [.lit (.bool true)], args := [d] }
  | _ => none }
def textsWordsRow : OpenClaim := { program := "ytmejoococajikaa", sum := "8c77ba6c965019d8a71c60c5da0af84536c1c2a942785dac6594b062a1a7ac0f", func := "pilaster/pilasterlaw15.TextsWords", spec := "textsWords", inPlace := ["internal/abi.NoEscape", "internal/bytealg.MakeNoZero"], unfollowed := true, recurses := true, apart := false }
def TextsWordsSaid : Prop := textsWordsRow.holds Try.pinned (OpenSpec.ofChange textsWordsSpec)

/-- ITS FALSE NEIGHBOUR: 'it returns false'. Refute it at one input. -/
def textsWordsWrong : ChangeSpec := { name := "textsWords", fn := fun _ => fun
  | [d] => { results := [.lit (.bool false)], args := [d] }
  | _ => none }
def TextsWordsWrongFalsely : Prop := textsWordsRow.holds Try.pinned (OpenSpec.ofChange textsWordsWrong)

/-- 'pilasterlaw15.TextsKinds': WHATEVER THE INPUT: true; the input reads as it did. -/
def textsKindsSpec : ChangeSpec := { name := "textsKinds", fn := fun _ => fun
  | [d] => { results := [.lit (.bool true)], args := [d] }
  | _ => none }
def textsKindsRow : OpenClaim := { program := "ytmejoococajikaa", sum := "8c77ba6c965019d8a71c60c5da0af84536c1c2a942785dac6594b062a1a7ac0f", func := "pilaster/pilasterlaw15.TextsKinds", spec := "textsKinds", inPlace := ["internal/abi.NoEscape", "internal/bytealg.MakeNoZero"], unfollowed := true, recurses := true, apart := false }
def TextsKindsSaid : Prop := textsKindsRow.holds Try.pinned (OpenSpec.ofChange textsKindsSpec)

/-- ITS FALSE NEIGHBOUR: 'it returns false'. Refute it at one input. -/
def textsKindsWrong : ChangeSpec := { name := "textsKinds", fn := fun _ => fun
  | [d] => { results := [.lit (.bool false)], args := [d] }
  | _ => none }
def TextsKindsWrongFalsely : Prop := textsKindsRow.holds Try.pinned (OpenSpec.ofChange textsKindsWrong)

/-- 'pilasterlaw08.DirectPlain': WHATEVER THE INPUT: true; the input reads as it did. -/
def directPlainSpec : ChangeSpec := { name := "directPlain", fn := fun _ => fun
  | [d1, d2, d3] => { results := [.lit (.bool true)], args := [d1, d2, d3] }
  | _ => none }
def directPlainRow : OpenClaim := { program := "ytmejoococajikaa", sum := "8c77ba6c965019d8a71c60c5da0af84536c1c2a942785dac6594b062a1a7ac0f", func := "pilaster/pilasterlaw08.DirectPlain", spec := "directPlain", unfollowed := true, recurses := true, apart := false }
def DirectPlainSaid : Prop := directPlainRow.holds Try.pinned (OpenSpec.ofChange directPlainSpec)

/-- ITS FALSE NEIGHBOUR: 'it returns false'. Refute it at one input. -/
def directPlainWrong : ChangeSpec := { name := "directPlain", fn := fun _ => fun
  | [d1, d2, d3] => { results := [.lit (.bool false)], args := [d1, d2, d3] }
  | _ => none }
def DirectPlainWrongFalsely : Prop := directPlainRow.holds Try.pinned (OpenSpec.ofChange directPlainWrong)

/-- 'pilasterlaw09.DeltaDiffs': WHATEVER THE INPUT: true; the input reads as it did. -/
def deltaDiffsSpec : ChangeSpec := { name := "deltaDiffs", fn := fun _ => fun
  | [d1, d2, d3] => { results := [.lit (.bool true)], args := [d1, d2, d3] }
  | _ => none }
def deltaDiffsRow : OpenClaim := { program := "ytmejoococajikaa", sum := "8c77ba6c965019d8a71c60c5da0af84536c1c2a942785dac6594b062a1a7ac0f", func := "pilaster/pilasterlaw09.DeltaDiffs", spec := "deltaDiffs", unfollowed := true, recurses := true, apart := false }
def DeltaDiffsSaid : Prop := deltaDiffsRow.holds Try.pinned (OpenSpec.ofChange deltaDiffsSpec)

/-- ITS FALSE NEIGHBOUR: 'it returns false'. Refute it at one input. -/
def deltaDiffsWrong : ChangeSpec := { name := "deltaDiffs", fn := fun _ => fun
  | [d1, d2, d3] => { results := [.lit (.bool false)], args := [d1, d2, d3] }
  | _ => none }
def DeltaDiffsWrongFalsely : Prop := deltaDiffsRow.holds Try.pinned (OpenSpec.ofChange deltaDiffsWrong)

/- THE SECOND FORM. 'bulk': how many values and letters a reading holds, each counted each time it is reached (what is shared counts as often as it is met; a slice's spare places count too). A statement '..UptoSaid' is the law's where the arguments, and the package variables that the reading takes, are together of bulk at most 1048576: NARROWER than '..Said'. Prove '..Said' where nothing that the law and all that it calls make is longer than what came in: it says more and counts as full. Else prove '..UptoSaid'. A law counts once. -/
mutual
def uptoBulk {H : Type} : DataW H → Nat
  | .lit (.string bytes) => bytes.length + 1
  | .lit _ => 1
  | .nil => 1
  | .ptr d => uptoBulk d + 1
  | .slice elems spare => uptoBulkAll elems + uptoBulkAll spare + 1
  | .agg parts => uptoBulkAll parts + 1
  | .iface _ d => uptoBulk d + 1
  | .map entries => uptoBulkEntries entries + 1
  | .held _ => 1
def uptoBulkAll {H : Type} : List (DataW H) → Nat
  | [] => 0
  | d :: r => uptoBulk d + uptoBulkAll r
def uptoBulkEntries {H : Type} : List (Lit × DataW H) → Nat
  | [] => 0
  | x :: r => uptoBulkEntry x + uptoBulkEntries r
def uptoBulkEntry {H : Type} : Lit × DataW H → Nat
  | (.string bytes, d) => bytes.length + uptoBulk d + 1
  | (_, d) => uptoBulk d + 1
 end
def uptoSmall : (H : Type) → List (DataW H) → Bool := fun _ ds => decide (uptoBulkAll ds ≤ 1048576)
def OpenSpec.upto (s : _root_.Go.ChangeSpec) : _root_.Go.OpenSpec := { _root_.Go.OpenSpec.ofChange s with cond := some uptoSmall }

/-- 'pilasterlaw15.TextsWords', WHERE WHAT IT READS IS OF BULK AT MOST 1048576: true; the input reads as it did. -/
def textsWordsUptoRow : OpenClaim := { program := "ytmejoococajikaa", sum := "8c77ba6c965019d8a71c60c5da0af84536c1c2a942785dac6594b062a1a7ac0f", func := "pilaster/pilasterlaw15.TextsWords", spec := "textsWords", inPlace := ["internal/abi.NoEscape", "internal/bytealg.MakeNoZero"], unfollowed := true, recurses := true, apart := false, narrowed := true }
def TextsWordsUptoSaid : Prop := textsWordsUptoRow.holds Try.pinned (OpenSpec.upto textsWordsSpec)

/-- 'pilasterlaw15.TextsKinds', WHERE WHAT IT READS IS OF BULK AT MOST 1048576: true; the input reads as it did. -/
def textsKindsUptoRow : OpenClaim := { program := "ytmejoococajikaa", sum := "8c77ba6c965019d8a71c60c5da0af84536c1c2a942785dac6594b062a1a7ac0f", func := "pilaster/pilasterlaw15.TextsKinds", spec := "textsKinds", inPlace := ["internal/abi.NoEscape", "internal/bytealg.MakeNoZero"], unfollowed := true, recurses := true, apart := false, narrowed := true }
def TextsKindsUptoSaid : Prop := textsKindsUptoRow.holds Try.pinned (OpenSpec.upto textsKindsSpec)

/-- 'pilasterlaw08.DirectPlain', WHERE WHAT IT READS IS OF BULK AT MOST 1048576: true; the input reads as it did. -/
def directPlainUptoRow : OpenClaim := { program := "ytmejoococajikaa", sum := "8c77ba6c965019d8a71c60c5da0af84536c1c2a942785dac6594b062a1a7ac0f", func := "pilaster/pilasterlaw08.DirectPlain", spec := "directPlain", unfollowed := true, recurses := true, apart := false, narrowed := true }
def DirectPlainUptoSaid : Prop := directPlainUptoRow.holds Try.pinned (OpenSpec.upto directPlainSpec)

/-- 'pilasterlaw09.DeltaDiffs', WHERE WHAT IT READS IS OF BULK AT MOST 1048576: true; the input reads as it did. -/
def deltaDiffsUptoRow : OpenClaim := { program := "ytmejoococajikaa", sum := "8c77ba6c965019d8a71c60c5da0af84536c1c2a942785dac6594b062a1a7ac0f", func := "pilaster/pilasterlaw09.DeltaDiffs", spec := "deltaDiffs", unfollowed := true, recurses := true, apart := false, narrowed := true }
def DeltaDiffsUptoSaid : Prop := deltaDiffsUptoRow.holds Try.pinned (OpenSpec.upto deltaDiffsSpec)

end Rows
end Go.Proofs.Ytmejoococajikaa

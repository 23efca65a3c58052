/-
  No cell of these rows narrows 'for every input' (looked for: loops, veiled, ifaces, maps, wideKeys, modest, calm, conditions, laid).
  DERIVED. THE GIVEN ROWS OF THIS SEAT. 11 by the template 'for every input the law returns true; each argument reads behind the call as it read before'; 0 by the template 'total and deterministic' (their statements: YtpgkbcgjjmdfiaaTotals.lean).
  GIVEN WITH THE SEED: the statements are not yours to turn. If you find one false, say at which input.
  Laid BY PROGRAM, IN A SANDBOX (cutbox-rows.mjs): the forced cells as the released guide's own fill.sh prints them over the translation 8ec18a5e8f102277… (all of the seat's roots in one cut). By AI agents, Wed Nov 11 2026. No macro, syntax, notation, axiom, sorry.
-/
import Derived.Test.YtpgkbcgjjmdfiaaChecked
import GoSem.Claim
import GoSem.ClaimJoined
import GoSem.ClaimMapViews
import Derived.JoinedTies
import Derived.KernelRfl
namespace Go.Proofs.Ytpgkbcgjjmdfiaa
/- THE CELL 'sum', in the pinned program and in every row, IS THE sha256 OF THE DUMP (.gsa) THAT YtpgkbcgjjmdfiaaProg.lean LOADS. Nothing in Lean hashes anything: it is a label: what it is worth is what the hold of that sum in a sandbox is worth. -/
noncomputable def Try.pinned : Pinned := { name := "ytpgkbcgjjmdfiaa", sum := "8ec18a5e8f1022773e1712e0eddf169223fae593ab681a954cbad9945e949f1c", checked := Try.checked }
namespace Rows
def none {H : Type} : Left H := { results := [], args := [] }

/-- 'pilasterlaw09.DeltaPuts': WHATEVER THE INPUT: true; the input reads as it did. -/
def deltaPutsSpec : ChangeSpec := { name := "deltaPuts", fn := fun _ => fun
  | [d1, d2] => { results := [.lit (.bool true)], args := [d1, d2] }
  | _ => none }
def deltaPutsRow : OpenClaim := { program := "ytpgkbcgjjmdfiaa", sum := "8ec18a5e8f1022773e1712e0eddf169223fae593ab681a954cbad9945e949f1c", func := "pilaster/pilasterlaw09.DeltaPuts", spec := "deltaPuts", unfollowed := true, recurses := true, apart := false }
def DeltaPutsSaid : Prop := deltaPutsRow.holds Try.pinned (OpenSpec.ofChange deltaPutsSpec)

/-- ITS FALSE NEIGHBOUR: 'it returns false'. Refute it at one input. -/
def deltaPutsWrong : ChangeSpec := { name := "deltaPuts", fn := fun _ => fun
  | [d1, d2] => { results := [.lit (.bool false)], args := [d1, d2] }
  | _ => none }
def DeltaPutsWrongFalsely : Prop := deltaPutsRow.holds Try.pinned (OpenSpec.ofChange deltaPutsWrong)

/-- 'pilasterlaw09.DeltaDiffs': WHATEVER THE INPUT: true; the input reads as it did. -/
def deltaDiffsSpec : ChangeSpec := { name := "deltaDiffs", fn := fun _ => fun
  | [d1, d2, d3] => { results := [.lit (.bool true)], args := [d1, d2, d3] }
  | _ => none }
def deltaDiffsRow : OpenClaim := { program := "ytpgkbcgjjmdfiaa", sum := "8ec18a5e8f1022773e1712e0eddf169223fae593ab681a954cbad9945e949f1c", func := "pilaster/pilasterlaw09.DeltaDiffs", spec := "deltaDiffs", unfollowed := true, recurses := true, apart := false }
def DeltaDiffsSaid : Prop := deltaDiffsRow.holds Try.pinned (OpenSpec.ofChange deltaDiffsSpec)

/-- ITS FALSE NEIGHBOUR: 'it returns false'. Refute it at one input. -/
def deltaDiffsWrong : ChangeSpec := { name := "deltaDiffs", fn := fun _ => fun
  | [d1, d2, d3] => { results := [.lit (.bool false)], args := [d1, d2, d3] }
  | _ => none }
def DeltaDiffsWrongFalsely : Prop := deltaDiffsRow.holds Try.pinned (OpenSpec.ofChange deltaDiffsWrong)

/-- 'pilasterlaw09.DeltaSteps': WHATEVER THE INPUT: true; the input reads as it did. -/
def deltaStepsSpec : ChangeSpec := { name := "deltaSteps", fn := fun _ => fun
  | [d1, d2] => { results := [.lit (.bool true)], args := [d1, d2] }
  | _ => none }
def deltaStepsRow : OpenClaim := { program := "ytpgkbcgjjmdfiaa", sum := "8ec18a5e8f1022773e1712e0eddf169223fae593ab681a954cbad9945e949f1c", func := "pilaster/pilasterlaw09.DeltaSteps", spec := "deltaSteps", unfollowed := true, recurses := true, apart := false }
def DeltaStepsSaid : Prop := deltaStepsRow.holds Try.pinned (OpenSpec.ofChange deltaStepsSpec)

/-- ITS FALSE NEIGHBOUR: 'it returns false'. Refute it at one input. -/
def deltaStepsWrong : ChangeSpec := { name := "deltaSteps", fn := fun _ => fun
  | [d1, d2] => { results := [.lit (.bool false)], args := [d1, d2] }
  | _ => none }
def DeltaStepsWrongFalsely : Prop := deltaStepsRow.holds Try.pinned (OpenSpec.ofChange deltaStepsWrong)

/-- 'pilasterlaw09.DeltaTakes': WHATEVER THE INPUT: true; the input reads as it did. -/
def deltaTakesSpec : ChangeSpec := { name := "deltaTakes", fn := fun _ => fun
  | [d1, d2] => { results := [.lit (.bool true)], args := [d1, d2] }
  | _ => none }
def deltaTakesRow : OpenClaim := { program := "ytpgkbcgjjmdfiaa", sum := "8ec18a5e8f1022773e1712e0eddf169223fae593ab681a954cbad9945e949f1c", func := "pilaster/pilasterlaw09.DeltaTakes", spec := "deltaTakes", unfollowed := true, recurses := true, apart := false }
def DeltaTakesSaid : Prop := deltaTakesRow.holds Try.pinned (OpenSpec.ofChange deltaTakesSpec)

/-- ITS FALSE NEIGHBOUR: 'it returns false'. Refute it at one input. -/
def deltaTakesWrong : ChangeSpec := { name := "deltaTakes", fn := fun _ => fun
  | [d1, d2] => { results := [.lit (.bool false)], args := [d1, d2] }
  | _ => none }
def DeltaTakesWrongFalsely : Prop := deltaTakesRow.holds Try.pinned (OpenSpec.ofChange deltaTakesWrong)

/-- 'pilasterlaw09.DeltaBack': WHATEVER THE INPUT: true; the input reads as it did. -/
def deltaBackSpec : ChangeSpec := { name := "deltaBack", fn := fun _ => fun
  | [d1, d2, d3] => { results := [.lit (.bool true)], args := [d1, d2, d3] }
  | _ => none }
def deltaBackRow : OpenClaim := { program := "ytpgkbcgjjmdfiaa", sum := "8ec18a5e8f1022773e1712e0eddf169223fae593ab681a954cbad9945e949f1c", func := "pilaster/pilasterlaw09.DeltaBack", spec := "deltaBack", unfollowed := true, recurses := true, apart := false }
def DeltaBackSaid : Prop := deltaBackRow.holds Try.pinned (OpenSpec.ofChange deltaBackSpec)

/-- ITS FALSE NEIGHBOUR: 'it returns false'. Refute it at one input. -/
def deltaBackWrong : ChangeSpec := { name := "deltaBack", fn := fun _ => fun
  | [d1, d2, d3] => { results := [.lit (.bool false)], args := [d1, d2, d3] }
  | _ => none }
def DeltaBackWrongFalsely : Prop := deltaBackRow.holds Try.pinned (OpenSpec.ofChange deltaBackWrong)

/-- 'pilasterlaw02.WidthsCodes': WHATEVER THE INPUT: true; the input reads as it did. -/
def widthsCodesSpec : ChangeSpec := { name := "widthsCodes", fn := fun _ => fun
  | [d1, d2, d3] => { results := [.lit (.bool true)], args := [d1, d2, d3] }
  | _ => none }
def widthsCodesRow : OpenClaim := { program := "ytpgkbcgjjmdfiaa", sum := "8ec18a5e8f1022773e1712e0eddf169223fae593ab681a954cbad9945e949f1c", func := "pilaster/pilasterlaw02.WidthsCodes", spec := "widthsCodes", apart := false }
def WidthsCodesSaid : Prop := widthsCodesRow.holds Try.pinned (OpenSpec.ofChange widthsCodesSpec)

/-- ITS FALSE NEIGHBOUR: 'it returns false'. Refute it at one input. -/
def widthsCodesWrong : ChangeSpec := { name := "widthsCodes", fn := fun _ => fun
  | [d1, d2, d3] => { results := [.lit (.bool false)], args := [d1, d2, d3] }
  | _ => none }
def WidthsCodesWrongFalsely : Prop := widthsCodesRow.holds Try.pinned (OpenSpec.ofChange widthsCodesWrong)

/-- 'pilasterlaw02.WidthsRise': WHATEVER THE INPUT: true; the input reads as it did. -/
def widthsRiseSpec : ChangeSpec := { name := "widthsRise", fn := fun _ => fun
  | [d1, d2, d3] => { results := [.lit (.bool true)], args := [d1, d2, d3] }
  | _ => none }
def widthsRiseRow : OpenClaim := { program := "ytpgkbcgjjmdfiaa", sum := "8ec18a5e8f1022773e1712e0eddf169223fae593ab681a954cbad9945e949f1c", func := "pilaster/pilasterlaw02.WidthsRise", spec := "widthsRise", apart := false }
def WidthsRiseSaid : Prop := widthsRiseRow.holds Try.pinned (OpenSpec.ofChange widthsRiseSpec)

/-- ITS FALSE NEIGHBOUR: 'it returns false'. Refute it at one input. -/
def widthsRiseWrong : ChangeSpec := { name := "widthsRise", fn := fun _ => fun
  | [d1, d2, d3] => { results := [.lit (.bool false)], args := [d1, d2, d3] }
  | _ => none }
def WidthsRiseWrongFalsely : Prop := widthsRiseRow.holds Try.pinned (OpenSpec.ofChange widthsRiseWrong)

/-- 'pilasterlaw03.BitsPacks': WHATEVER THE INPUT: true; the input reads as it did. -/
def bitsPacksSpec : ChangeSpec := { name := "bitsPacks", fn := fun _ => fun
  | [d1, d2, d3] => { results := [.lit (.bool true)], args := [d1, d2, d3] }
  | _ => none }
def bitsPacksRow : OpenClaim := { program := "ytpgkbcgjjmdfiaa", sum := "8ec18a5e8f1022773e1712e0eddf169223fae593ab681a954cbad9945e949f1c", func := "pilaster/pilasterlaw03.BitsPacks", spec := "bitsPacks", unfollowed := true, recurses := true, apart := false }
def BitsPacksSaid : Prop := bitsPacksRow.holds Try.pinned (OpenSpec.ofChange bitsPacksSpec)

/-- ITS FALSE NEIGHBOUR: 'it returns false'. Refute it at one input. -/
def bitsPacksWrong : ChangeSpec := { name := "bitsPacks", fn := fun _ => fun
  | [d1, d2, d3] => { results := [.lit (.bool false)], args := [d1, d2, d3] }
  | _ => none }
def BitsPacksWrongFalsely : Prop := bitsPacksRow.holds Try.pinned (OpenSpec.ofChange bitsPacksWrong)

/-- 'pilasterlaw08.DirectPuts': WHATEVER THE INPUT: true; the input reads as it did. -/
def directPutsSpec : ChangeSpec := { name := "directPuts", fn := fun _ => fun
  | [d1, d2] => { results := [.lit (.bool true)], args := [d1, d2] }
  | _ => none }
def directPutsRow : OpenClaim := { program := "ytpgkbcgjjmdfiaa", sum := "8ec18a5e8f1022773e1712e0eddf169223fae593ab681a954cbad9945e949f1c", func := "pilaster/pilasterlaw08.DirectPuts", spec := "directPuts", unfollowed := true, recurses := true, apart := false }
def DirectPutsSaid : Prop := directPutsRow.holds Try.pinned (OpenSpec.ofChange directPutsSpec)

/-- ITS FALSE NEIGHBOUR: 'it returns false'. Refute it at one input. -/
def directPutsWrong : ChangeSpec := { name := "directPuts", fn := fun _ => fun
  | [d1, d2] => { results := [.lit (.bool false)], args := [d1, d2] }
  | _ => none }
def DirectPutsWrongFalsely : Prop := directPutsRow.holds Try.pinned (OpenSpec.ofChange directPutsWrong)

/-- 'pilasterlaw08.DirectPlain': WHATEVER THE INPUT: true; the input reads as it did. -/
def directPlainSpec : ChangeSpec := { name := "directPlain", fn := fun _ => fun
  | [d1, d2, d3] => { results := [.lit (.bool true)], args := [d1, d2, d3] }
  | _ => none }
def directPlainRow : OpenClaim := { program := "ytpgkbcgjjmdfiaa", sum := "8ec18a5e8f1022773e1712e0eddf169223fae593ab681a954cbad9945e949f1c", func := "pilaster/pilasterlaw08.DirectPlain", spec := "directPlain", unfollowed := true, recurses := true, apart := false }
def DirectPlainSaid : Prop := directPlainRow.holds Try.pinned (OpenSpec.ofChange directPlainSpec)

/-- ITS FALSE NEIGHBOUR: 'it returns false'. Refute it at one input. -/
def directPlainWrong : ChangeSpec := { name := "directPlain", fn := fun _ => fun
  | [d1, d2, d3] => { results := [.lit (.bool false)], args := [d1, d2, d3] }
  | _ => none }
def DirectPlainWrongFalsely : Prop := directPlainRow.holds Try.pinned (OpenSpec.ofChange directPlainWrong)

/-- 'pilasterlaw08.DirectTakes': WHATEVER THE INPUT: true; the input reads as it did. -/
def directTakesSpec : ChangeSpec := { name := "directTakes", fn := fun _ => fun
  | [d1, d2] => { results := [.lit (.bool true)], args := [d1, d2] }
  | _ => none }
def directTakesRow : OpenClaim := { program := "ytpgkbcgjjmdfiaa", sum := "8ec18a5e8f1022773e1712e0eddf169223fae593ab681a954cbad9945e949f1c", func := "pilaster/pilasterlaw08.DirectTakes", spec := "directTakes", unfollowed := true, recurses := true, apart := false }
def DirectTakesSaid : Prop := directTakesRow.holds Try.pinned (OpenSpec.ofChange directTakesSpec)

/-- ITS FALSE NEIGHBOUR: 'it returns false'. Refute it at one input. -/
def directTakesWrong : ChangeSpec := { name := "directTakes", fn := fun _ => fun
  | [d1, d2] => { results := [.lit (.bool false)], args := [d1, d2] }
  | _ => none }
def DirectTakesWrongFalsely : Prop := directTakesRow.holds Try.pinned (OpenSpec.ofChange directTakesWrong)

/- THE SECOND FORM. 'bulk': how many values and letters a reading holds, each counted each time it is reached (what is shared counts as often as it is met; a slice's spare places count too). A statement '..UptoSaid' is the law's where the arguments, and the package variables that the reading takes, are together of bulk at most 1048576: NARROWER than '..Said'. Prove '..Said' where nothing that the law and all that it calls make is longer than what came in: it says more and counts as full. Else prove '..UptoSaid'. A law counts once. -/
mutual
def uptoBulk {H : Type} : DataW H → Nat
  | .lit (.string bytes) => bytes.length + 1
  | .lit _ => 1
  | .nil => 1
  | .ptr d => uptoBulk d + 1
  | .slice elems spare => uptoBulkAll elems + uptoBulkAll spare + 1
  | .agg parts => uptoBulkAll parts + 1
  | .iface _ d => uptoBulk d + 1
  | .map entries => uptoBulkEntries entries + 1
  | .held _ => 1
def uptoBulkAll {H : Type} : List (DataW H) → Nat
  | [] => 0
  | d :: r => uptoBulk d + uptoBulkAll r
def uptoBulkEntries {H : Type} : List (Lit × DataW H) → Nat
  | [] => 0
  | x :: r => uptoBulkEntry x + uptoBulkEntries r
def uptoBulkEntry {H : Type} : Lit × DataW H → Nat
  | (.string bytes, d) => bytes.length + uptoBulk d + 1
  | (_, d) => uptoBulk d + 1
 end
def uptoSmall : (H : Type) → List (DataW H) → Bool := fun _ ds => decide (uptoBulkAll ds ≤ 1048576)
def OpenSpec.upto (s : _root_.Go.ChangeSpec) : _root_.Go.OpenSpec := { _root_.Go.OpenSpec.ofChange s with cond := some uptoSmall }

/-- 'pilasterlaw09.DeltaPuts', WHERE WHAT IT READS IS OF BULK AT MOST 1048576: true; the input reads as it did. -/
def deltaPutsUptoRow : OpenClaim := { program := "ytpgkbcgjjmdfiaa", sum := "8ec18a5e8f1022773e1712e0eddf169223fae593ab681a954cbad9945e949f1c", func := "pilaster/pilasterlaw09.DeltaPuts", spec := "deltaPuts", unfollowed := true, recurses := true, apart := false, narrowed := true }
def DeltaPutsUptoSaid : Prop := deltaPutsUptoRow.holds Try.pinned (OpenSpec.upto deltaPutsSpec)

/-- 'pilasterlaw09.DeltaDiffs', WHERE WHAT IT READS IS OF BULK AT MOST 1048576: true; the input reads as it did. -/
def deltaDiffsUptoRow : OpenClaim := { program := "ytpgkbcgjjmdfiaa", sum := "8ec18a5e8f1022773e1712e0eddf169223fae593ab681a954cbad9945e949f1c", func := "pilaster/pilasterlaw09.DeltaDiffs", spec := "deltaDiffs", unfollowed := true, recurses := true, apart := false, narrowed := true }
def DeltaDiffsUptoSaid : Prop := deltaDiffsUptoRow.holds Try.pinned (OpenSpec.upto deltaDiffsSpec)

/-- 'pilasterlaw09.DeltaSteps', WHERE WHAT IT READS IS OF BULK AT MOST 1048576: true; the input reads as it did. -/
def deltaStepsUptoRow : OpenClaim := { program := "ytpgkbcgjjmdfiaa", sum := "8ec18a5e8f1022773e1712e0eddf169223fae593ab681a954cbad9945e949f1c", func := "pilaster/pilasterlaw09.DeltaSteps", spec := "deltaSteps", unfollowed := true, recurses := true, apart := false, narrowed := true }
def DeltaStepsUptoSaid : Prop := deltaStepsUptoRow.holds Try.pinned (OpenSpec.upto deltaStepsSpec)

/-- 'pilasterlaw09.DeltaTakes', WHERE WHAT IT READS IS OF BULK AT MOST 1048576: true; the input reads as it did. -/
def deltaTakesUptoRow : OpenClaim := { program := "ytpgkbcgjjmdfiaa", sum := "8ec18a5e8f1022773e1712e0eddf169223fae593ab681a954cbad9945e949f1c", func := "pilaster/pilasterlaw09.DeltaTakes", spec := "deltaTakes", unfollowed := true, recurses := true, apart := false, narrowed := true }
def DeltaTakesUptoSaid : Prop := deltaTakesUptoRow.holds Try.pinned (OpenSpec.upto deltaTakesSpec)

/-- 'pilasterlaw09.DeltaBack', WHERE WHAT IT READS IS OF BULK AT MOST 1048576: true; the input reads as it did. -/
def deltaBackUptoRow : OpenClaim := { program := "ytpgkbcgjjmdfiaa", sum := "8ec18a5e8f1022773e1712e0eddf169223fae593ab681a954cbad9945e949f1c", func := "pilaster/pilasterlaw09.DeltaBack", spec := "deltaBack", unfollowed := true, recurses := true, apart := false, narrowed := true }
def DeltaBackUptoSaid : Prop := deltaBackUptoRow.holds Try.pinned (OpenSpec.upto deltaBackSpec)

/-- 'pilasterlaw02.WidthsCodes', WHERE WHAT IT READS IS OF BULK AT MOST 1048576: true; the input reads as it did. -/
def widthsCodesUptoRow : OpenClaim := { program := "ytpgkbcgjjmdfiaa", sum := "8ec18a5e8f1022773e1712e0eddf169223fae593ab681a954cbad9945e949f1c", func := "pilaster/pilasterlaw02.WidthsCodes", spec := "widthsCodes", apart := false, narrowed := true }
def WidthsCodesUptoSaid : Prop := widthsCodesUptoRow.holds Try.pinned (OpenSpec.upto widthsCodesSpec)

/-- 'pilasterlaw02.WidthsRise', WHERE WHAT IT READS IS OF BULK AT MOST 1048576: true; the input reads as it did. -/
def widthsRiseUptoRow : OpenClaim := { program := "ytpgkbcgjjmdfiaa", sum := "8ec18a5e8f1022773e1712e0eddf169223fae593ab681a954cbad9945e949f1c", func := "pilaster/pilasterlaw02.WidthsRise", spec := "widthsRise", apart := false, narrowed := true }
def WidthsRiseUptoSaid : Prop := widthsRiseUptoRow.holds Try.pinned (OpenSpec.upto widthsRiseSpec)

/-- 'pilasterlaw03.BitsPacks', WHERE WHAT IT READS IS OF BULK AT MOST 1048576: true; the input reads as it did. -/
def bitsPacksUptoRow : OpenClaim := { program := "ytpgkbcgjjmdfiaa", sum := "8ec18a5e8f1022773e1712e0eddf169223fae593ab681a954cbad9945e949f1c", func := "pilaster/pilasterlaw03.BitsPacks", spec := "bitsPacks", unfollowed := true, recurses := true, apart := false, narrowed := true }
def BitsPacksUptoSaid : Prop := bitsPacksUptoRow.holds Try.pinned (OpenSpec.upto bitsPacksSpec)

/-- 'pilasterlaw08.DirectPuts', WHERE WHAT IT READS IS OF BULK AT MOST 1048576: true; the input reads as it did. -/
def directPutsUptoRow : OpenClaim := { program := "ytpgkbcgjjmdfiaa", sum := "8ec18a5e8f1022773e1712e0eddf169223fae593ab681a954cbad9945e949f1c", func := "pilaster/pilasterlaw08.DirectPuts", spec := "directPuts", unfollowed := true, recurses := true, apart := false, narrowed := true }
def DirectPutsUptoSaid : Prop := directPutsUptoRow.holds Try.pinned (OpenSpec.upto directPutsSpec)

/-- 'pilasterlaw08.DirectPlain', WHERE WHAT IT READS IS OF BULK AT MOST 1048576: true; the input reads as it did. -/
def directPlainUptoRow : OpenClaim := { program := "ytpgkbcgjjmdfiaa", sum := "8ec18a5e8f1022773e1712e0eddf169223fae593ab681a954cbad9945e949f1c", func := "pilaster/pilasterlaw08.DirectPlain", spec := "directPlain", unfollowed := true, recurses := true, apart := false, narrowed := true }
def DirectPlainUptoSaid : Prop := directPlainUptoRow.holds Try.pinned (OpenSpec.upto directPlainSpec)

/-- 'pilasterlaw08.DirectTakes', WHERE WHAT IT READS IS OF BULK AT MOST 1048576: true; the input reads as it did. -/
def directTakesUptoRow : OpenClaim := { program := "ytpgkbcgjjmdfiaa", sum := "8ec18a5e8f1022773e1712e0eddf169223fae593ab681a954cbad9945e949f1c", func := "pilaster/pilasterlaw08.DirectTakes", spec := "directTakes", unfollowed := true, recurses := true, apart := false, narrowed := true }
def DirectTakesUptoSaid : Prop := directTakesUptoRow.holds Try.pinned (OpenSpec.upto directTakesSpec)

end Rows
end Go.Proofs.Ytpgkbcgjjmdfiaa

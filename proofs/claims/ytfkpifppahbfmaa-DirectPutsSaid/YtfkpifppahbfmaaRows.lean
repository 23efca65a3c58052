/-
  No cell of these rows narrows 'for every input' (looked for: loops, veiled, ifaces, maps, wideKeys, modest, calm, conditions, laid).
  DERIVED. THE GIVEN ROWS OF THIS SEAT. 30 by the template 'for every input the law returns true; each argument reads behind the call as it read before'; 0 by the template 'total and deterministic' (their statements: YtfkpifppahbfmaaTotals.lean).
  GIVEN WITH THE SEED: the statements are not yours to turn. If you find one false, say at which input.
  Laid BY PROGRAM, IN A SANDBOX (cutbox-rows.mjs): the forced cells as the released guide's own fill.sh prints them over the translation 91827f90dbcfd20f… (all of the seat's roots in one cut). By AI agents, Wed Nov 11 2026. No macro, syntax, notation, axiom, sorry.
-/
import Derived.Test.YtfkpifppahbfmaaChecked
import GoSem.Claim
import GoSem.ClaimJoined
import GoSem.ClaimMapViews
import Derived.JoinedTies
import Derived.KernelRfl
namespace Go.Proofs.Ytfkpifppahbfmaa
/- THE CELL 'sum', in the pinned program and in every row, IS THE sha256 OF THE DUMP (.gsa) THAT YtfkpifppahbfmaaProg.lean LOADS. Nothing in Lean hashes anything: it is a label: what it is worth is what the hold of that sum in a sandbox is worth. -/
noncomputable def Try.pinned : Pinned := { name := "ytfkpifppahbfmaa", sum := "91827f90dbcfd20faba0b31f35ef92c14b7789a316bda9e35599bbb025a3b0d0", checked := Try.checked }
namespace Rows
def none {H : Type} : Left H := { results := [], args := [] }

/-- 'pilasterlaw08.DirectPuts': WHATEVER THE INPUT: true; the input reads as it did. -/
def directPutsSpec : ChangeSpec := { name := "directPuts", fn := fun _ => fun
  | [d1, d2] => { results := [.lit (.bool true)], args := [d1, d2] }
  | _ => none }
def directPutsRow : OpenClaim := { program := "ytfkpifppahbfmaa", sum := "91827f90dbcfd20faba0b31f35ef92c14b7789a316bda9e35599bbb025a3b0d0", func := "pilaster/pilasterlaw08.DirectPuts", spec := "directPuts", unfollowed := true, recurses := true, apart := false }
def DirectPutsSaid : Prop := directPutsRow.holds Try.pinned (OpenSpec.ofChange directPutsSpec)

/-- ITS FALSE NEIGHBOUR: 'it returns false'. Refute it at one input. -/
def directPutsWrong : ChangeSpec := { name := "directPuts", fn := fun _ => fun
  | [d1, d2] => { results := [.lit (.bool false)], args := [d1, d2] }
  | _ => none }
def DirectPutsWrongFalsely : Prop := directPutsRow.holds Try.pinned (OpenSpec.ofChange directPutsWrong)

/-- 'pilasterlaw08.DirectPlain': WHATEVER THE INPUT: true; the input reads as it did. -/
def directPlainSpec : ChangeSpec := { name := "directPlain", fn := fun _ => fun
  | [d1, d2, d3] => { results := [.lit (.bool true)], args := [d1, d2, d3] }
  | _ => none }
def directPlainRow : OpenClaim := { program := "ytfkpifppahbfmaa", sum := "91827f90dbcfd20faba0b31f35ef92c14b7789a316bda9e35599bbb025a3b0d0", func := "pilaster/pilasterlaw08.DirectPlain", spec := "directPlain", unfollowed := true, recurses := true, apart := false }
def DirectPlainSaid : Prop := directPlainRow.holds Try.pinned (OpenSpec.ofChange directPlainSpec)

/-- ITS FALSE NEIGHBOUR: 'it returns false'. Refute it at one input. -/
def directPlainWrong : ChangeSpec := { name := "directPlain", fn := fun _ => fun
  | [d1, d2, d3] => { results := [.lit (.bool false)], args := [d1, d2, d3] }
  | _ => none }
def DirectPlainWrongFalsely : Prop := directPlainRow.holds Try.pinned (OpenSpec.ofChange directPlainWrong)

/-- 'pilasterlaw08.DirectHeads': WHATEVER THE INPUT: true; the input reads as it did. -/
def directHeadsSpec : ChangeSpec := { name := "directHeads", fn := fun _ => fun
  | [d1, d2] => { results := [.lit (.bool true)], args := [d1, d2] }
  | _ => none }
def directHeadsRow : OpenClaim := { program := "ytfkpifppahbfmaa", sum := "91827f90dbcfd20faba0b31f35ef92c14b7789a316bda9e35599bbb025a3b0d0", func := "pilaster/pilasterlaw08.DirectHeads", spec := "directHeads", unfollowed := true, recurses := true, apart := false }
def DirectHeadsSaid : Prop := directHeadsRow.holds Try.pinned (OpenSpec.ofChange directHeadsSpec)

/-- ITS FALSE NEIGHBOUR: 'it returns false'. Refute it at one input. -/
def directHeadsWrong : ChangeSpec := { name := "directHeads", fn := fun _ => fun
  | [d1, d2] => { results := [.lit (.bool false)], args := [d1, d2] }
  | _ => none }
def DirectHeadsWrongFalsely : Prop := directHeadsRow.holds Try.pinned (OpenSpec.ofChange directHeadsWrong)

/-- 'pilasterlaw13.NullsPuts': WHATEVER THE INPUT: true; the input reads as it did. -/
def nullsPutsSpec : ChangeSpec := { name := "nullsPuts", fn := fun _ => fun
  | [d] => { results := [.lit (.bool true)], args := [d] }
  | _ => none }
def nullsPutsRow : OpenClaim := { program := "ytfkpifppahbfmaa", sum := "91827f90dbcfd20faba0b31f35ef92c14b7789a316bda9e35599bbb025a3b0d0", func := "pilaster/pilasterlaw13.NullsPuts", spec := "nullsPuts", inPlace := ["internal/bytealg.MakeNoZero"], unfollowed := true, recurses := true, apart := false }
def NullsPutsSaid : Prop := nullsPutsRow.holds Try.pinned (OpenSpec.ofChange nullsPutsSpec)

/-- ITS FALSE NEIGHBOUR: 'it returns false'. Refute it at one input. -/
def nullsPutsWrong : ChangeSpec := { name := "nullsPuts", fn := fun _ => fun
  | [d] => { results := [.lit (.bool false)], args := [d] }
  | _ => none }
def NullsPutsWrongFalsely : Prop := nullsPutsRow.holds Try.pinned (OpenSpec.ofChange nullsPutsWrong)

/-- 'pilasterlaw06.BoolrlePuts': WHATEVER THE INPUT: true; the input reads as it did. -/
def boolrlePutsSpec : ChangeSpec := { name := "boolrlePuts", fn := fun _ => fun
  | [d] => { results := [.lit (.bool true)], args := [d] }
  | _ => none }
def boolrlePutsRow : OpenClaim := { program := "ytfkpifppahbfmaa", sum := "91827f90dbcfd20faba0b31f35ef92c14b7789a316bda9e35599bbb025a3b0d0", func := "pilaster/pilasterlaw06.BoolrlePuts", spec := "boolrlePuts", inPlace := ["internal/bytealg.MakeNoZero"], unfollowed := true, recurses := true, apart := false }
def BoolrlePutsSaid : Prop := boolrlePutsRow.holds Try.pinned (OpenSpec.ofChange boolrlePutsSpec)

/-- ITS FALSE NEIGHBOUR: 'it returns false'. Refute it at one input. -/
def boolrlePutsWrong : ChangeSpec := { name := "boolrlePuts", fn := fun _ => fun
  | [d] => { results := [.lit (.bool false)], args := [d] }
  | _ => none }
def BoolrlePutsWrongFalsely : Prop := boolrlePutsRow.holds Try.pinned (OpenSpec.ofChange boolrlePutsWrong)

/-- 'pilasterlaw06.BoolrleTakes': WHATEVER THE INPUT: true; the input reads as it did. -/
def boolrleTakesSpec : ChangeSpec := { name := "boolrleTakes", fn := fun _ => fun
  | [d1, d2] => { results := [.lit (.bool true)], args := [d1, d2] }
  | _ => none }
def boolrleTakesRow : OpenClaim := { program := "ytfkpifppahbfmaa", sum := "91827f90dbcfd20faba0b31f35ef92c14b7789a316bda9e35599bbb025a3b0d0", func := "pilaster/pilasterlaw06.BoolrleTakes", spec := "boolrleTakes", inPlace := ["internal/bytealg.MakeNoZero"], unfollowed := true, recurses := true, apart := false }
def BoolrleTakesSaid : Prop := boolrleTakesRow.holds Try.pinned (OpenSpec.ofChange boolrleTakesSpec)

/-- ITS FALSE NEIGHBOUR: 'it returns false'. Refute it at one input. -/
def boolrleTakesWrong : ChangeSpec := { name := "boolrleTakes", fn := fun _ => fun
  | [d1, d2] => { results := [.lit (.bool false)], args := [d1, d2] }
  | _ => none }
def BoolrleTakesWrongFalsely : Prop := boolrleTakesRow.holds Try.pinned (OpenSpec.ofChange boolrleTakesWrong)

/-- 'pilasterlaw06.BoolrleBack': WHATEVER THE INPUT: true; the input reads as it did. -/
def boolrleBackSpec : ChangeSpec := { name := "boolrleBack", fn := fun _ => fun
  | [d1, d2] => { results := [.lit (.bool true)], args := [d1, d2] }
  | _ => none }
def boolrleBackRow : OpenClaim := { program := "ytfkpifppahbfmaa", sum := "91827f90dbcfd20faba0b31f35ef92c14b7789a316bda9e35599bbb025a3b0d0", func := "pilaster/pilasterlaw06.BoolrleBack", spec := "boolrleBack", inPlace := ["internal/bytealg.MakeNoZero"], unfollowed := true, recurses := true, apart := false }
def BoolrleBackSaid : Prop := boolrleBackRow.holds Try.pinned (OpenSpec.ofChange boolrleBackSpec)

/-- ITS FALSE NEIGHBOUR: 'it returns false'. Refute it at one input. -/
def boolrleBackWrong : ChangeSpec := { name := "boolrleBack", fn := fun _ => fun
  | [d1, d2] => { results := [.lit (.bool false)], args := [d1, d2] }
  | _ => none }
def BoolrleBackWrongFalsely : Prop := boolrleBackRow.holds Try.pinned (OpenSpec.ofChange boolrleBackWrong)

/-- 'pilasterlaw06.BoolrleCounts': WHATEVER THE INPUT: true; the input reads as it did. -/
def boolrleCountsSpec : ChangeSpec := { name := "boolrleCounts", fn := fun _ => fun
  | [d1, d2] => { results := [.lit (.bool true)], args := [d1, d2] }
  | _ => none }
def boolrleCountsRow : OpenClaim := { program := "ytfkpifppahbfmaa", sum := "91827f90dbcfd20faba0b31f35ef92c14b7789a316bda9e35599bbb025a3b0d0", func := "pilaster/pilasterlaw06.BoolrleCounts", spec := "boolrleCounts", inPlace := ["internal/bytealg.MakeNoZero"], unfollowed := true, recurses := true, apart := false }
def BoolrleCountsSaid : Prop := boolrleCountsRow.holds Try.pinned (OpenSpec.ofChange boolrleCountsSpec)

/-- ITS FALSE NEIGHBOUR: 'it returns false'. Refute it at one input. -/
def boolrleCountsWrong : ChangeSpec := { name := "boolrleCounts", fn := fun _ => fun
  | [d1, d2] => { results := [.lit (.bool false)], args := [d1, d2] }
  | _ => none }
def BoolrleCountsWrongFalsely : Prop := boolrleCountsRow.holds Try.pinned (OpenSpec.ofChange boolrleCountsWrong)

/-- 'pilasterlaw09.DeltaPuts': WHATEVER THE INPUT: true; the input reads as it did. -/
def deltaPutsSpec : ChangeSpec := { name := "deltaPuts", fn := fun _ => fun
  | [d1, d2] => { results := [.lit (.bool true)], args := [d1, d2] }
  | _ => none }
def deltaPutsRow : OpenClaim := { program := "ytfkpifppahbfmaa", sum := "91827f90dbcfd20faba0b31f35ef92c14b7789a316bda9e35599bbb025a3b0d0", func := "pilaster/pilasterlaw09.DeltaPuts", spec := "deltaPuts", unfollowed := true, recurses := true, apart := false }
def DeltaPutsSaid : Prop := deltaPutsRow.holds Try.pinned (OpenSpec.ofChange deltaPutsSpec)

/-- ITS FALSE NEIGHBOUR: 'it returns false'. Refute it at one input. -/
def deltaPutsWrong : ChangeSpec := { name := "deltaPuts", fn := fun _ => fun
  | [d1, d2] => { results := [.lit (.bool false)], args := [d1, d2] }
  | _ => none }
def DeltaPutsWrongFalsely : Prop := deltaPutsRow.holds Try.pinned (OpenSpec.ofChange deltaPutsWrong)

/-- 'pilasterlaw10.PatchedPuts': WHATEVER THE INPUT: true; the input reads as it did. -/
def patchedPutsSpec : ChangeSpec := { name := "patchedPuts", fn := fun _ => fun
  | [d1, d2, d3] => { results := [.lit (.bool true)], args := [d1, d2, d3] }
  | _ => none }
def patchedPutsRow : OpenClaim := { program := "ytfkpifppahbfmaa", sum := "91827f90dbcfd20faba0b31f35ef92c14b7789a316bda9e35599bbb025a3b0d0", func := "pilaster/pilasterlaw10.PatchedPuts", spec := "patchedPuts", unfollowed := true, recurses := true, apart := false }
def PatchedPutsSaid : Prop := patchedPutsRow.holds Try.pinned (OpenSpec.ofChange patchedPutsSpec)

/-- ITS FALSE NEIGHBOUR: 'it returns false'. Refute it at one input. -/
def patchedPutsWrong : ChangeSpec := { name := "patchedPuts", fn := fun _ => fun
  | [d1, d2, d3] => { results := [.lit (.bool false)], args := [d1, d2, d3] }
  | _ => none }
def PatchedPutsWrongFalsely : Prop := patchedPutsRow.holds Try.pinned (OpenSpec.ofChange patchedPutsWrong)

/-- 'pilasterlaw13.NullsSplits': WHATEVER THE INPUT: true; the input reads as it did. -/
def nullsSplitsSpec : ChangeSpec := { name := "nullsSplits", fn := fun _ => fun
  | [d1, d2] => { results := [.lit (.bool true)], args := [d1, d2] }
  | _ => none }
def nullsSplitsRow : OpenClaim := { program := "ytfkpifppahbfmaa", sum := "91827f90dbcfd20faba0b31f35ef92c14b7789a316bda9e35599bbb025a3b0d0", func := "pilaster/pilasterlaw13.NullsSplits", spec := "nullsSplits", inPlace := ["internal/bytealg.MakeNoZero"], unfollowed := true, recurses := true, apart := false }
def NullsSplitsSaid : Prop := nullsSplitsRow.holds Try.pinned (OpenSpec.ofChange nullsSplitsSpec)

/-- ITS FALSE NEIGHBOUR: 'it returns false'. Refute it at one input. -/
def nullsSplitsWrong : ChangeSpec := { name := "nullsSplits", fn := fun _ => fun
  | [d1, d2] => { results := [.lit (.bool false)], args := [d1, d2] }
  | _ => none }
def NullsSplitsWrongFalsely : Prop := nullsSplitsRow.holds Try.pinned (OpenSpec.ofChange nullsSplitsWrong)

/-- 'pilasterlaw09.DeltaDiffs': WHATEVER THE INPUT: true; the input reads as it did. -/
def deltaDiffsSpec : ChangeSpec := { name := "deltaDiffs", fn := fun _ => fun
  | [d1, d2, d3] => { results := [.lit (.bool true)], args := [d1, d2, d3] }
  | _ => none }
def deltaDiffsRow : OpenClaim := { program := "ytfkpifppahbfmaa", sum := "91827f90dbcfd20faba0b31f35ef92c14b7789a316bda9e35599bbb025a3b0d0", func := "pilaster/pilasterlaw09.DeltaDiffs", spec := "deltaDiffs", unfollowed := true, recurses := true, apart := false }
def DeltaDiffsSaid : Prop := deltaDiffsRow.holds Try.pinned (OpenSpec.ofChange deltaDiffsSpec)

/-- ITS FALSE NEIGHBOUR: 'it returns false'. Refute it at one input. -/
def deltaDiffsWrong : ChangeSpec := { name := "deltaDiffs", fn := fun _ => fun
  | [d1, d2, d3] => { results := [.lit (.bool false)], args := [d1, d2, d3] }
  | _ => none }
def DeltaDiffsWrongFalsely : Prop := deltaDiffsRow.holds Try.pinned (OpenSpec.ofChange deltaDiffsWrong)

/-- 'pilasterlaw09.DeltaSteps': WHATEVER THE INPUT: true; the input reads as it did. -/
def deltaStepsSpec : ChangeSpec := { name := "deltaSteps", fn := fun _ => fun
  | [d1, d2] => { results := [.lit (.bool true)], args := [d1, d2] }
  | _ => none }
def deltaStepsRow : OpenClaim := { program := "ytfkpifppahbfmaa", sum := "91827f90dbcfd20faba0b31f35ef92c14b7789a316bda9e35599bbb025a3b0d0", func := "pilaster/pilasterlaw09.DeltaSteps", spec := "deltaSteps", unfollowed := true, recurses := true, apart := false }
def DeltaStepsSaid : Prop := deltaStepsRow.holds Try.pinned (OpenSpec.ofChange deltaStepsSpec)

/-- ITS FALSE NEIGHBOUR: 'it returns false'. Refute it at one input. -/
def deltaStepsWrong : ChangeSpec := { name := "deltaSteps", fn := fun _ => fun
  | [d1, d2] => { results := [.lit (.bool false)], args := [d1, d2] }
  | _ => none }
def DeltaStepsWrongFalsely : Prop := deltaStepsRow.holds Try.pinned (OpenSpec.ofChange deltaStepsWrong)

/-- 'pilasterlaw08.DirectTakes': WHATEVER THE INPUT: true; the input reads as it did. -/
def directTakesSpec : ChangeSpec := { name := "directTakes", fn := fun _ => fun
  | [d1, d2] => { results := [.lit (.bool true)], args := [d1, d2] }
  | _ => none }
def directTakesRow : OpenClaim := { program := "ytfkpifppahbfmaa", sum := "91827f90dbcfd20faba0b31f35ef92c14b7789a316bda9e35599bbb025a3b0d0", func := "pilaster/pilasterlaw08.DirectTakes", spec := "directTakes", unfollowed := true, recurses := true, apart := false }
def DirectTakesSaid : Prop := directTakesRow.holds Try.pinned (OpenSpec.ofChange directTakesSpec)

/-- ITS FALSE NEIGHBOUR: 'it returns false'. Refute it at one input. -/
def directTakesWrong : ChangeSpec := { name := "directTakes", fn := fun _ => fun
  | [d1, d2] => { results := [.lit (.bool false)], args := [d1, d2] }
  | _ => none }
def DirectTakesWrongFalsely : Prop := directTakesRow.holds Try.pinned (OpenSpec.ofChange directTakesWrong)

/-- 'pilasterlaw08.DirectBack': WHATEVER THE INPUT: true; the input reads as it did. -/
def directBackSpec : ChangeSpec := { name := "directBack", fn := fun _ => fun
  | [d1, d2, d3] => { results := [.lit (.bool true)], args := [d1, d2, d3] }
  | _ => none }
def directBackRow : OpenClaim := { program := "ytfkpifppahbfmaa", sum := "91827f90dbcfd20faba0b31f35ef92c14b7789a316bda9e35599bbb025a3b0d0", func := "pilaster/pilasterlaw08.DirectBack", spec := "directBack", unfollowed := true, recurses := true, apart := false }
def DirectBackSaid : Prop := directBackRow.holds Try.pinned (OpenSpec.ofChange directBackSpec)

/-- ITS FALSE NEIGHBOUR: 'it returns false'. Refute it at one input. -/
def directBackWrong : ChangeSpec := { name := "directBack", fn := fun _ => fun
  | [d1, d2, d3] => { results := [.lit (.bool false)], args := [d1, d2, d3] }
  | _ => none }
def DirectBackWrongFalsely : Prop := directBackRow.holds Try.pinned (OpenSpec.ofChange directBackWrong)

/-- 'pilasterlaw13.NullsTakes': WHATEVER THE INPUT: true; the input reads as it did. -/
def nullsTakesSpec : ChangeSpec := { name := "nullsTakes", fn := fun _ => fun
  | [d1, d2] => { results := [.lit (.bool true)], args := [d1, d2] }
  | _ => none }
def nullsTakesRow : OpenClaim := { program := "ytfkpifppahbfmaa", sum := "91827f90dbcfd20faba0b31f35ef92c14b7789a316bda9e35599bbb025a3b0d0", func := "pilaster/pilasterlaw13.NullsTakes", spec := "nullsTakes", inPlace := ["internal/bytealg.MakeNoZero"], unfollowed := true, recurses := true, apart := false }
def NullsTakesSaid : Prop := nullsTakesRow.holds Try.pinned (OpenSpec.ofChange nullsTakesSpec)

/-- ITS FALSE NEIGHBOUR: 'it returns false'. Refute it at one input. -/
def nullsTakesWrong : ChangeSpec := { name := "nullsTakes", fn := fun _ => fun
  | [d1, d2] => { results := [.lit (.bool false)], args := [d1, d2] }
  | _ => none }
def NullsTakesWrongFalsely : Prop := nullsTakesRow.holds Try.pinned (OpenSpec.ofChange nullsTakesWrong)

/-- 'pilasterlaw13.NullsBack': WHATEVER THE INPUT: true; the input reads as it did. -/
def nullsBackSpec : ChangeSpec := { name := "nullsBack", fn := fun _ => fun
  | [d] => { results := [.lit (.bool true)], args := [d] }
  | _ => none }
def nullsBackRow : OpenClaim := { program := "ytfkpifppahbfmaa", sum := "91827f90dbcfd20faba0b31f35ef92c14b7789a316bda9e35599bbb025a3b0d0", func := "pilaster/pilasterlaw13.NullsBack", spec := "nullsBack", inPlace := ["internal/bytealg.MakeNoZero"], unfollowed := true, recurses := true, apart := false }
def NullsBackSaid : Prop := nullsBackRow.holds Try.pinned (OpenSpec.ofChange nullsBackSpec)

/-- ITS FALSE NEIGHBOUR: 'it returns false'. Refute it at one input. -/
def nullsBackWrong : ChangeSpec := { name := "nullsBack", fn := fun _ => fun
  | [d] => { results := [.lit (.bool false)], args := [d] }
  | _ => none }
def NullsBackWrongFalsely : Prop := nullsBackRow.holds Try.pinned (OpenSpec.ofChange nullsBackWrong)

/-- 'pilasterlaw10.PatchedTakes': WHATEVER THE INPUT: true; the input reads as it did. -/
def patchedTakesSpec : ChangeSpec := { name := "patchedTakes", fn := fun _ => fun
  | [d1, d2] => { results := [.lit (.bool true)], args := [d1, d2] }
  | _ => none }
def patchedTakesRow : OpenClaim := { program := "ytfkpifppahbfmaa", sum := "91827f90dbcfd20faba0b31f35ef92c14b7789a316bda9e35599bbb025a3b0d0", func := "pilaster/pilasterlaw10.PatchedTakes", spec := "patchedTakes", unfollowed := true, recurses := true, apart := false }
def PatchedTakesSaid : Prop := patchedTakesRow.holds Try.pinned (OpenSpec.ofChange patchedTakesSpec)

/-- ITS FALSE NEIGHBOUR: 'it returns false'. Refute it at one input. -/
def patchedTakesWrong : ChangeSpec := { name := "patchedTakes", fn := fun _ => fun
  | [d1, d2] => { results := [.lit (.bool false)], args := [d1, d2] }
  | _ => none }
def PatchedTakesWrongFalsely : Prop := patchedTakesRow.holds Try.pinned (OpenSpec.ofChange patchedTakesWrong)

/-- 'pilasterlaw10.PatchedBack': WHATEVER THE INPUT: true; the input reads as it did. -/
def patchedBackSpec : ChangeSpec := { name := "patchedBack", fn := fun _ => fun
  | [d1, d2, d3] => { results := [.lit (.bool true)], args := [d1, d2, d3] }
  | _ => none }
def patchedBackRow : OpenClaim := { program := "ytfkpifppahbfmaa", sum := "91827f90dbcfd20faba0b31f35ef92c14b7789a316bda9e35599bbb025a3b0d0", func := "pilaster/pilasterlaw10.PatchedBack", spec := "patchedBack", unfollowed := true, recurses := true, apart := false }
def PatchedBackSaid : Prop := patchedBackRow.holds Try.pinned (OpenSpec.ofChange patchedBackSpec)

/-- ITS FALSE NEIGHBOUR: 'it returns false'. Refute it at one input. -/
def patchedBackWrong : ChangeSpec := { name := "patchedBack", fn := fun _ => fun
  | [d1, d2, d3] => { results := [.lit (.bool false)], args := [d1, d2, d3] }
  | _ => none }
def PatchedBackWrongFalsely : Prop := patchedBackRow.holds Try.pinned (OpenSpec.ofChange patchedBackWrong)

/-- 'pilasterlaw10.PatchedFew': WHATEVER THE INPUT: true; the input reads as it did. -/
def patchedFewSpec : ChangeSpec := { name := "patchedFew", fn := fun _ => fun
  | [d1, d2, d3] => { results := [.lit (.bool true)], args := [d1, d2, d3] }
  | _ => none }
def patchedFewRow : OpenClaim := { program := "ytfkpifppahbfmaa", sum := "91827f90dbcfd20faba0b31f35ef92c14b7789a316bda9e35599bbb025a3b0d0", func := "pilaster/pilasterlaw10.PatchedFew", spec := "patchedFew", unfollowed := true, recurses := true, apart := false }
def PatchedFewSaid : Prop := patchedFewRow.holds Try.pinned (OpenSpec.ofChange patchedFewSpec)

/-- ITS FALSE NEIGHBOUR: 'it returns false'. Refute it at one input. -/
def patchedFewWrong : ChangeSpec := { name := "patchedFew", fn := fun _ => fun
  | [d1, d2, d3] => { results := [.lit (.bool false)], args := [d1, d2, d3] }
  | _ => none }
def PatchedFewWrongFalsely : Prop := patchedFewRow.holds Try.pinned (OpenSpec.ofChange patchedFewWrong)

/-- 'pilasterlaw09.DeltaTakes': WHATEVER THE INPUT: true; the input reads as it did. -/
def deltaTakesSpec : ChangeSpec := { name := "deltaTakes", fn := fun _ => fun
  | [d1, d2] => { results := [.lit (.bool true)], args := [d1, d2] }
  | _ => none }
def deltaTakesRow : OpenClaim := { program := "ytfkpifppahbfmaa", sum := "91827f90dbcfd20faba0b31f35ef92c14b7789a316bda9e35599bbb025a3b0d0", func := "pilaster/pilasterlaw09.DeltaTakes", spec := "deltaTakes", unfollowed := true, recurses := true, apart := false }
def DeltaTakesSaid : Prop := deltaTakesRow.holds Try.pinned (OpenSpec.ofChange deltaTakesSpec)

/-- ITS FALSE NEIGHBOUR: 'it returns false'. Refute it at one input. -/
def deltaTakesWrong : ChangeSpec := { name := "deltaTakes", fn := fun _ => fun
  | [d1, d2] => { results := [.lit (.bool false)], args := [d1, d2] }
  | _ => none }
def DeltaTakesWrongFalsely : Prop := deltaTakesRow.holds Try.pinned (OpenSpec.ofChange deltaTakesWrong)

/-- 'pilasterlaw09.DeltaBack': WHATEVER THE INPUT: true; the input reads as it did. -/
def deltaBackSpec : ChangeSpec := { name := "deltaBack", fn := fun _ => fun
  | [d1, d2, d3] => { results := [.lit (.bool true)], args := [d1, d2, d3] }
  | _ => none }
def deltaBackRow : OpenClaim := { program := "ytfkpifppahbfmaa", sum := "91827f90dbcfd20faba0b31f35ef92c14b7789a316bda9e35599bbb025a3b0d0", func := "pilaster/pilasterlaw09.DeltaBack", spec := "deltaBack", unfollowed := true, recurses := true, apart := false }
def DeltaBackSaid : Prop := deltaBackRow.holds Try.pinned (OpenSpec.ofChange deltaBackSpec)

/-- ITS FALSE NEIGHBOUR: 'it returns false'. Refute it at one input. -/
def deltaBackWrong : ChangeSpec := { name := "deltaBack", fn := fun _ => fun
  | [d1, d2, d3] => { results := [.lit (.bool false)], args := [d1, d2, d3] }
  | _ => none }
def DeltaBackWrongFalsely : Prop := deltaBackRow.holds Try.pinned (OpenSpec.ofChange deltaBackWrong)

/-- 'pilasterlaw11.RleRuns': WHATEVER THE INPUT: true; the input reads as it did. -/
def rleRunsSpec : ChangeSpec := { name := "rleRuns", fn := fun _ => fun
  | [d1, d2] => { results := [.lit (.bool true)], args := [d1, d2] }
  | _ => none }
def rleRunsRow : OpenClaim := { program := "ytfkpifppahbfmaa", sum := "91827f90dbcfd20faba0b31f35ef92c14b7789a316bda9e35599bbb025a3b0d0", func := "pilaster/pilasterlaw11.RleRuns", spec := "rleRuns", unfollowed := true, recurses := true, apart := false }
def RleRunsSaid : Prop := rleRunsRow.holds Try.pinned (OpenSpec.ofChange rleRunsSpec)

/-- ITS FALSE NEIGHBOUR: 'it returns false'. Refute it at one input. -/
def rleRunsWrong : ChangeSpec := { name := "rleRuns", fn := fun _ => fun
  | [d1, d2] => { results := [.lit (.bool false)], args := [d1, d2] }
  | _ => none }
def RleRunsWrongFalsely : Prop := rleRunsRow.holds Try.pinned (OpenSpec.ofChange rleRunsWrong)

/-- 'pilasterlaw11.RlePuts': WHATEVER THE INPUT: true; the input reads as it did. -/
def rlePutsSpec : ChangeSpec := { name := "rlePuts", fn := fun _ => fun
  | [d1, d2] => { results := [.lit (.bool true)], args := [d1, d2] }
  | _ => none }
def rlePutsRow : OpenClaim := { program := "ytfkpifppahbfmaa", sum := "91827f90dbcfd20faba0b31f35ef92c14b7789a316bda9e35599bbb025a3b0d0", func := "pilaster/pilasterlaw11.RlePuts", spec := "rlePuts", unfollowed := true, recurses := true, apart := false }
def RlePutsSaid : Prop := rlePutsRow.holds Try.pinned (OpenSpec.ofChange rlePutsSpec)

/-- ITS FALSE NEIGHBOUR: 'it returns false'. Refute it at one input. -/
def rlePutsWrong : ChangeSpec := { name := "rlePuts", fn := fun _ => fun
  | [d1, d2] => { results := [.lit (.bool false)], args := [d1, d2] }
  | _ => none }
def RlePutsWrongFalsely : Prop := rlePutsRow.holds Try.pinned (OpenSpec.ofChange rlePutsWrong)

/-- 'pilasterlaw11.RleShort': WHATEVER THE INPUT: true; the input reads as it did. -/
def rleShortSpec : ChangeSpec := { name := "rleShort", fn := fun _ => fun
  | [d1, d2] => { results := [.lit (.bool true)], args := [d1, d2] }
  | _ => none }
def rleShortRow : OpenClaim := { program := "ytfkpifppahbfmaa", sum := "91827f90dbcfd20faba0b31f35ef92c14b7789a316bda9e35599bbb025a3b0d0", func := "pilaster/pilasterlaw11.RleShort", spec := "rleShort", unfollowed := true, recurses := true, apart := false }
def RleShortSaid : Prop := rleShortRow.holds Try.pinned (OpenSpec.ofChange rleShortSpec)

/-- ITS FALSE NEIGHBOUR: 'it returns false'. Refute it at one input. -/
def rleShortWrong : ChangeSpec := { name := "rleShort", fn := fun _ => fun
  | [d1, d2] => { results := [.lit (.bool false)], args := [d1, d2] }
  | _ => none }
def RleShortWrongFalsely : Prop := rleShortRow.holds Try.pinned (OpenSpec.ofChange rleShortWrong)

/-- 'pilasterlaw11.RleSame': WHATEVER THE INPUT: true; the input reads as it did. -/
def rleSameSpec : ChangeSpec := { name := "rleSame", fn := fun _ => fun
  | [d1, d2, d3] => { results := [.lit (.bool true)], args := [d1, d2, d3] }
  | _ => none }
def rleSameRow : OpenClaim := { program := "ytfkpifppahbfmaa", sum := "91827f90dbcfd20faba0b31f35ef92c14b7789a316bda9e35599bbb025a3b0d0", func := "pilaster/pilasterlaw11.RleSame", spec := "rleSame", unfollowed := true, recurses := true, apart := false }
def RleSameSaid : Prop := rleSameRow.holds Try.pinned (OpenSpec.ofChange rleSameSpec)

/-- ITS FALSE NEIGHBOUR: 'it returns false'. Refute it at one input. -/
def rleSameWrong : ChangeSpec := { name := "rleSame", fn := fun _ => fun
  | [d1, d2, d3] => { results := [.lit (.bool false)], args := [d1, d2, d3] }
  | _ => none }
def RleSameWrongFalsely : Prop := rleSameRow.holds Try.pinned (OpenSpec.ofChange rleSameWrong)

/-- 'pilasterlaw11.RleTakes': WHATEVER THE INPUT: true; the input reads as it did. -/
def rleTakesSpec : ChangeSpec := { name := "rleTakes", fn := fun _ => fun
  | [d1, d2, d3] => { results := [.lit (.bool true)], args := [d1, d2, d3] }
  | _ => none }
def rleTakesRow : OpenClaim := { program := "ytfkpifppahbfmaa", sum := "91827f90dbcfd20faba0b31f35ef92c14b7789a316bda9e35599bbb025a3b0d0", func := "pilaster/pilasterlaw11.RleTakes", spec := "rleTakes", unfollowed := true, recurses := true, apart := false }
def RleTakesSaid : Prop := rleTakesRow.holds Try.pinned (OpenSpec.ofChange rleTakesSpec)

/-- ITS FALSE NEIGHBOUR: 'it returns false'. Refute it at one input. -/
def rleTakesWrong : ChangeSpec := { name := "rleTakes", fn := fun _ => fun
  | [d1, d2, d3] => { results := [.lit (.bool false)], args := [d1, d2, d3] }
  | _ => none }
def RleTakesWrongFalsely : Prop := rleTakesRow.holds Try.pinned (OpenSpec.ofChange rleTakesWrong)

/-- 'pilasterlaw11.RleBack': WHATEVER THE INPUT: true; the input reads as it did. -/
def rleBackSpec : ChangeSpec := { name := "rleBack", fn := fun _ => fun
  | [d1, d2, d3] => { results := [.lit (.bool true)], args := [d1, d2, d3] }
  | _ => none }
def rleBackRow : OpenClaim := { program := "ytfkpifppahbfmaa", sum := "91827f90dbcfd20faba0b31f35ef92c14b7789a316bda9e35599bbb025a3b0d0", func := "pilaster/pilasterlaw11.RleBack", spec := "rleBack", unfollowed := true, recurses := true, apart := false }
def RleBackSaid : Prop := rleBackRow.holds Try.pinned (OpenSpec.ofChange rleBackSpec)

/-- ITS FALSE NEIGHBOUR: 'it returns false'. Refute it at one input. -/
def rleBackWrong : ChangeSpec := { name := "rleBack", fn := fun _ => fun
  | [d1, d2, d3] => { results := [.lit (.bool false)], args := [d1, d2, d3] }
  | _ => none }
def RleBackWrongFalsely : Prop := rleBackRow.holds Try.pinned (OpenSpec.ofChange rleBackWrong)

/-- 'pilasterlaw15.TextsWords': WHATEVER THE INPUT: true; the input reads as it did. -/
def textsWordsSpec : ChangeSpec := { name := "textsWords", fn := fun _ => fun
  | [d] => { results := [.lit (.bool true)], args := [d] }
  | _ => none }
def textsWordsRow : OpenClaim := { program := "ytfkpifppahbfmaa", sum := "91827f90dbcfd20faba0b31f35ef92c14b7789a316bda9e35599bbb025a3b0d0", func := "pilaster/pilasterlaw15.TextsWords", spec := "textsWords", inPlace := ["internal/abi.NoEscape", "internal/bytealg.MakeNoZero"], unfollowed := true, recurses := true, apart := false }
def TextsWordsSaid : Prop := textsWordsRow.holds Try.pinned (OpenSpec.ofChange textsWordsSpec)

/-- ITS FALSE NEIGHBOUR: 'it returns false'. Refute it at one input. -/
def textsWordsWrong : ChangeSpec := { name := "textsWords", fn := fun _ => fun
  | [d] => { results := [.lit (.bool false)], args := [d] }
  | _ => none }
def TextsWordsWrongFalsely : Prop := textsWordsRow.holds Try.pinned (OpenSpec.ofChange textsWordsWrong)

/-- 'pilasterlaw15.TextsKinds': WHATEVER THE INPUT: true; the input reads as it did. -/
def textsKindsSpec : ChangeSpec := { name := "textsKinds", fn := fun _ => fun
  | [d] => { results := [.lit (.bool true)], args := [d] }
  | _ => none }
def textsKindsRow : OpenClaim := { program := "ytfkpifppahbfmaa", sum := "91827f90dbcfd20faba0b31f35ef92c14b7789a316bda9e35599bbb025a3b0d0", func := "pilaster/pilasterlaw15.TextsKinds", spec := "textsKinds", inPlace := ["internal/abi.NoEscape", "internal/bytealg.MakeNoZero"], unfollowed := true, recurses := true, apart := false }
def TextsKindsSaid : Prop := textsKindsRow.holds Try.pinned (OpenSpec.ofChange textsKindsSpec)

/-- ITS FALSE NEIGHBOUR: 'it returns false'. Refute it at one input. -/
def textsKindsWrong : ChangeSpec := { name := "textsKinds", fn := fun _ => fun
  | [d] => { results := [.lit (.bool false)], args := [d] }
  | _ => none }
def TextsKindsWrongFalsely : Prop := textsKindsRow.holds Try.pinned (OpenSpec.ofChange textsKindsWrong)

/- THE SECOND FORM. 'bulk': how many values and letters a reading holds, each counted each time it is reached (what is shared counts as often as it is met; a slice's spare places count too). A statement '..UptoSaid' is the law's where the arguments, and the package variables that the reading takes, are together of bulk at most 1048576: NARROWER than '..Said'. Prove '..Said' where nothing that the law and all that it calls make is longer than what came in: it says more and counts as full. Else prove '..UptoSaid'. A law counts once. -/
mutual
def uptoBulk {H : Type} : DataW H → Nat
  | .lit (.string bytes) => bytes.length + 1
  | .lit _ => 1
  | .nil => 1
  | .ptr d => uptoBulk d + 1
  | .slice elems spare => uptoBulkAll elems + uptoBulkAll spare + 1
  | .agg parts => uptoBulkAll parts + 1
  | .iface _ d => uptoBulk d + 1
  | .map entries => uptoBulkEntries entries + 1
  | .held _ => 1
def uptoBulkAll {H : Type} : List (DataW H) → Nat
  | [] => 0
  | d :: r => uptoBulk d + uptoBulkAll r
def uptoBulkEntries {H : Type} : List (Lit × DataW H) → Nat
  | [] => 0
  | x :: r => uptoBulkEntry x + uptoBulkEntries r
def uptoBulkEntry {H : Type} : Lit × DataW H → Nat
  | (.string bytes, d) => bytes.length + uptoBulk d + 1
  | (_, d) => uptoBulk d + 1
 end
def uptoSmall : (H : Type) → List (DataW H) → Bool := fun _ ds => decide (uptoBulkAll ds ≤ 1048576)
def OpenSpec.upto (s : _root_.Go.ChangeSpec) : _root_.Go.OpenSpec := { _root_.Go.OpenSpec.ofChange s with cond := some uptoSmall }

/-- 'pilasterlaw08.DirectPuts', WHERE WHAT IT READS IS OF BULK AT MOST 1048576: true; the input reads as it did. -/
def directPutsUptoRow : OpenClaim := { program := "ytfkpifppahbfmaa", sum := "91827f90dbcfd20faba0b31f35ef92c14b7789a316bda9e35599bbb025a3b0d0", func := "pilaster/pilasterlaw08.DirectPuts", spec := "directPuts", unfollowed := true, recurses := true, apart := false, narrowed := true }
def DirectPutsUptoSaid : Prop := directPutsUptoRow.holds Try.pinned (OpenSpec.upto directPutsSpec)

/-- 'pilasterlaw08.DirectPlain', WHERE WHAT IT READS IS OF BULK AT MOST 1048576: true; the input reads as it did. -/
def directPlainUptoRow : OpenClaim := { program := "ytfkpifppahbfmaa", sum := "91827f90dbcfd20faba0b31f35ef92c14b7789a316bda9e35599bbb025a3b0d0", func := "pilaster/pilasterlaw08.DirectPlain", spec := "directPlain", unfollowed := true, recurses := true, apart := false, narrowed := true }
def DirectPlainUptoSaid : Prop := directPlainUptoRow.holds Try.pinned (OpenSpec.upto directPlainSpec)

/-- 'pilasterlaw08.DirectHeads', WHERE WHAT IT READS IS OF BULK AT MOST 1048576: true; the input reads as it did. -/
def directHeadsUptoRow : OpenClaim := { program := "ytfkpifppahbfmaa", sum := "91827f90dbcfd20faba0b31f35ef92c14b7789a316bda9e35599bbb025a3b0d0", func := "pilaster/pilasterlaw08.DirectHeads", spec := "directHeads", unfollowed := true, recurses := true, apart := false, narrowed := true }
def DirectHeadsUptoSaid : Prop := directHeadsUptoRow.holds Try.pinned (OpenSpec.upto directHeadsSpec)

/-- 'pilasterlaw13.NullsPuts', WHERE WHAT IT READS IS OF BULK AT MOST 1048576: true; the input reads as it did. -/
def nullsPutsUptoRow : OpenClaim := { program := "ytfkpifppahbfmaa", sum := "91827f90dbcfd20faba0b31f35ef92c14b7789a316bda9e35599bbb025a3b0d0", func := "pilaster/pilasterlaw13.NullsPuts", spec := "nullsPuts", inPlace := ["internal/bytealg.MakeNoZero"], unfollowed := true, recurses := true, apart := false, narrowed := true }
def NullsPutsUptoSaid : Prop := nullsPutsUptoRow.holds Try.pinned (OpenSpec.upto nullsPutsSpec)

/-- 'pilasterlaw06.BoolrlePuts', WHERE WHAT IT READS IS OF BULK AT MOST 1048576: true; the input reads as it did. -/
def boolrlePutsUptoRow : OpenClaim := { program := "ytfkpifppahbfmaa", sum := "91827f90dbcfd20faba0b31f35ef92c14b7789a316bda9e35599bbb025a3b0d0", func := "pilaster/pilasterlaw06.BoolrlePuts", spec := "boolrlePuts", inPlace := ["internal/bytealg.MakeNoZero"], unfollowed := true, recurses := true, apart := false, narrowed := true }
def BoolrlePutsUptoSaid : Prop := boolrlePutsUptoRow.holds Try.pinned (OpenSpec.upto boolrlePutsSpec)

/-- 'pilasterlaw06.BoolrleTakes', WHERE WHAT IT READS IS OF BULK AT MOST 1048576: true; the input reads as it did. -/
def boolrleTakesUptoRow : OpenClaim := { program := "ytfkpifppahbfmaa", sum := "91827f90dbcfd20faba0b31f35ef92c14b7789a316bda9e35599bbb025a3b0d0", func := "pilaster/pilasterlaw06.BoolrleTakes", spec := "boolrleTakes", inPlace := ["internal/bytealg.MakeNoZero"], unfollowed := true, recurses := true, apart := false, narrowed := true }
def BoolrleTakesUptoSaid : Prop := boolrleTakesUptoRow.holds Try.pinned (OpenSpec.upto boolrleTakesSpec)

/-- 'pilasterlaw06.BoolrleBack', WHERE WHAT IT READS IS OF BULK AT MOST 1048576: true; the input reads as it did. -/
def boolrleBackUptoRow : OpenClaim := { program := "ytfkpifppahbfmaa", sum := "91827f90dbcfd20faba0b31f35ef92c14b7789a316bda9e35599bbb025a3b0d0", func := "pilaster/pilasterlaw06.BoolrleBack", spec := "boolrleBack", inPlace := ["internal/bytealg.MakeNoZero"], unfollowed := true, recurses := true, apart := false, narrowed := true }
def BoolrleBackUptoSaid : Prop := boolrleBackUptoRow.holds Try.pinned (OpenSpec.upto boolrleBackSpec)

/-- 'pilasterlaw06.BoolrleCounts', WHERE WHAT IT READS IS OF BULK AT MOST 1048576: true; the input reads as it did. -/
def boolrleCountsUptoRow : OpenClaim := { program := "ytfkpifppahbfmaa", sum := "91827f90dbcfd20faba0b31f35ef92c14b7789a316bda9e35599bbb025a3b0d0", func := "pilaster/pilasterlaw06.BoolrleCounts", spec := "boolrleCounts", inPlace := ["internal/bytealg.MakeNoZero"], unfollowed := true, recurses := true, apart := false, narrowed := true }
def BoolrleCountsUptoSaid : Prop := boolrleCountsUptoRow.holds Try.pinned (OpenSpec.upto boolrleCountsSpec)

/-- 'pilasterlaw09.DeltaPuts', WHERE WHAT IT READS IS OF BULK AT MOST 1048576: true; the input reads as it did. -/
def deltaPutsUptoRow : OpenClaim := { program := "ytfkpifppahbfmaa", sum := "91827f90dbcfd20faba0b31f35ef92c14b7789a316bda9e35599bbb025a3b0d0", func := "pilaster/pilasterlaw09.DeltaPuts", spec := "deltaPuts", unfollowed := true, recurses := true, apart := false, narrowed := true }
def DeltaPutsUptoSaid : Prop := deltaPutsUptoRow.holds Try.pinned (OpenSpec.upto deltaPutsSpec)

/-- 'pilasterlaw10.PatchedPuts', WHERE WHAT IT READS IS OF BULK AT MOST 1048576: true; the input reads as it did. -/
def patchedPutsUptoRow : OpenClaim := { program := "ytfkpifppahbfmaa", sum := "91827f90dbcfd20faba0b31f35ef92c14b7789a316bda9e35599bbb025a3b0d0", func := "pilaster/pilasterlaw10.PatchedPuts", spec := "patchedPuts", unfollowed := true, recurses := true, apart := false, narrowed := true }
def PatchedPutsUptoSaid : Prop := patchedPutsUptoRow.holds Try.pinned (OpenSpec.upto patchedPutsSpec)

/-- 'pilasterlaw13.NullsSplits', WHERE WHAT IT READS IS OF BULK AT MOST 1048576: true; the input reads as it did. -/
def nullsSplitsUptoRow : OpenClaim := { program := "ytfkpifppahbfmaa", sum := "91827f90dbcfd20faba0b31f35ef92c14b7789a316bda9e35599bbb025a3b0d0", func := "pilaster/pilasterlaw13.NullsSplits", spec := "nullsSplits", inPlace := ["internal/bytealg.MakeNoZero"], unfollowed := true, recurses := true, apart := false, narrowed := true }
def NullsSplitsUptoSaid : Prop := nullsSplitsUptoRow.holds Try.pinned (OpenSpec.upto nullsSplitsSpec)

/-- 'pilasterlaw09.DeltaDiffs', WHERE WHAT IT READS IS OF BULK AT MOST 1048576: true; the input reads as it did. -/
def deltaDiffsUptoRow : OpenClaim := { program := "ytfkpifppahbfmaa", sum := "91827f90dbcfd20faba0b31f35ef92c14b7789a316bda9e35599bbb025a3b0d0", func := "pilaster/pilasterlaw09.DeltaDiffs", spec := "deltaDiffs", unfollowed := true, recurses := true, apart := false, narrowed := true }
def DeltaDiffsUptoSaid : Prop := deltaDiffsUptoRow.holds Try.pinned (OpenSpec.upto deltaDiffsSpec)

/-- 'pilasterlaw09.DeltaSteps', WHERE WHAT IT READS IS OF BULK AT MOST 1048576: true; the input reads as it did. -/
def deltaStepsUptoRow : OpenClaim := { program := "ytfkpifppahbfmaa", sum := "91827f90dbcfd20faba0b31f35ef92c14b7789a316bda9e35599bbb025a3b0d0", func := "pilaster/pilasterlaw09.DeltaSteps", spec := "deltaSteps", unfollowed := true, recurses := true, apart := false, narrowed := true }
def DeltaStepsUptoSaid : Prop := deltaStepsUptoRow.holds Try.pinned (OpenSpec.upto deltaStepsSpec)

/-- 'pilasterlaw08.DirectTakes', WHERE WHAT IT READS IS OF BULK AT MOST 1048576: true; the input reads as it did. -/
def directTakesUptoRow : OpenClaim := { program := "ytfkpifppahbfmaa", sum := "91827f90dbcfd20faba0b31f35ef92c14b7789a316bda9e35599bbb025a3b0d0", func := "pilaster/pilasterlaw08.DirectTakes", spec := "directTakes", unfollowed := true, recurses := true, apart := false, narrowed := true }
def DirectTakesUptoSaid : Prop := directTakesUptoRow.holds Try.pinned (OpenSpec.upto directTakesSpec)

/-- 'pilasterlaw08.DirectBack', WHERE WHAT IT READS IS OF BULK AT MOST 1048576: true; the input reads as it did. -/
def directBackUptoRow : OpenClaim := { program := "ytfkpifppahbfmaa", sum := "91827f90dbcfd20faba0b31f35ef92c14b7789a316bda9e35599bbb025a3b0d0", func := "pilaster/pilasterlaw08.DirectBack", spec := "directBack", unfollowed := true, recurses := true, apart := false, narrowed := true }
def DirectBackUptoSaid : Prop := directBackUptoRow.holds Try.pinned (OpenSpec.upto directBackSpec)

/-- 'pilasterlaw13.NullsTakes', WHERE WHAT IT READS IS OF BULK AT MOST 1048576: true; the input reads as it did. -/
def nullsTakesUptoRow : OpenClaim := { program := "ytfkpifppahbfmaa", sum := "91827f90dbcfd20faba0b31f35ef92c14b7789a316bda9e35599bbb025a3b0d0", func := "pilaster/pilasterlaw13.NullsTakes", spec := "nullsTakes", inPlace := ["internal/bytealg.MakeNoZero"], unfollowed := true, recurses := true, apart := false, narrowed := true }
def NullsTakesUptoSaid : Prop := nullsTakesUptoRow.holds Try.pinned (OpenSpec.upto nullsTakesSpec)

/-- 'pilasterlaw13.NullsBack', WHERE WHAT IT READS IS OF BULK AT MOST 1048576: true; the input reads as it did. -/
def nullsBackUptoRow : OpenClaim := { program := "ytfkpifppahbfmaa", sum := "91827f90dbcfd20faba0b31f35ef92c14b7789a316bda9e35599bbb025a3b0d0", func := "pilaster/pilasterlaw13.NullsBack", spec := "nullsBack", inPlace := ["internal/bytealg.MakeNoZero"], unfollowed := true, recurses := true, apart := false, narrowed := true }
def NullsBackUptoSaid : Prop := nullsBackUptoRow.holds Try.pinned (OpenSpec.upto nullsBackSpec)

/-- 'pilasterlaw10.PatchedTakes', WHERE WHAT IT READS IS OF BULK AT MOST 1048576: true; the input reads as it did. -/
def patchedTakesUptoRow : OpenClaim := { program := "ytfkpifppahbfmaa", sum := "91827f90dbcfd20faba0b31f35ef92c14b7789a316bda9e35599bbb025a3b0d0", func := "pilaster/pilasterlaw10.PatchedTakes", spec := "patchedTakes", unfollowed := true, recurses := true, apart := false, narrowed := true }
def PatchedTakesUptoSaid : Prop := patchedTakesUptoRow.holds Try.pinned (OpenSpec.upto patchedTakesSpec)

/-- 'pilasterlaw10.PatchedBack', WHERE WHAT IT READS IS OF BULK AT MOST 1048576: true; the input reads as it did. -/
def patchedBackUptoRow : OpenClaim := { program := "ytfkpifppahbfmaa", sum := "91827f90dbcfd20faba0b31f35ef92c14b7789a316bda9e35599bbb025a3b0d0", func := "pilaster/pilasterlaw10.PatchedBack", spec := "patchedBack", unfollowed := true, recurses := true, apart := false, narrowed := true }
def PatchedBackUptoSaid : Prop := patchedBackUptoRow.holds Try.pinned (OpenSpec.upto patchedBackSpec)

/-- 'pilasterlaw10.PatchedFew', WHERE WHAT IT READS IS OF BULK AT MOST 1048576: true; the input reads as it did. -/
def patchedFewUptoRow : OpenClaim := { program := "ytfkpifppahbfmaa", sum := "91827f90dbcfd20faba0b31f35ef92c14b7789a316bda9e35599bbb025a3b0d0", func := "pilaster/pilasterlaw10.PatchedFew", spec := "patchedFew", unfollowed := true, recurses := true, apart := false, narrowed := true }
def PatchedFewUptoSaid : Prop := patchedFewUptoRow.holds Try.pinned (OpenSpec.upto patchedFewSpec)

/-- 'pilasterlaw09.DeltaTakes', WHERE WHAT IT READS IS OF BULK AT MOST 1048576: true; the input reads as it did. -/
def deltaTakesUptoRow : OpenClaim := { program := "ytfkpifppahbfmaa", sum := "91827f90dbcfd20faba0b31f35ef92c14b7789a316bda9e35599bbb025a3b0d0", func := "pilaster/pilasterlaw09.DeltaTakes", spec := "deltaTakes", unfollowed := true, recurses := true, apart := false, narrowed := true }
def DeltaTakesUptoSaid : Prop := deltaTakesUptoRow.holds Try.pinned (OpenSpec.upto deltaTakesSpec)

/-- 'pilasterlaw09.DeltaBack', WHERE WHAT IT READS IS OF BULK AT MOST 1048576: true; the input reads as it did. -/
def deltaBackUptoRow : OpenClaim := { program := "ytfkpifppahbfmaa", sum := "91827f90dbcfd20faba0b31f35ef92c14b7789a316bda9e35599bbb025a3b0d0", func := "pilaster/pilasterlaw09.DeltaBack", spec := "deltaBack", unfollowed := true, recurses := true, apart := false, narrowed := true }
def DeltaBackUptoSaid : Prop := deltaBackUptoRow.holds Try.pinned (OpenSpec.upto deltaBackSpec)

/-- 'pilasterlaw11.RleRuns', WHERE WHAT IT READS IS OF BULK AT MOST 1048576: true; the input reads as it did. -/
def rleRunsUptoRow : OpenClaim := { program := "ytfkpifppahbfmaa", sum := "91827f90dbcfd20faba0b31f35ef92c14b7789a316bda9e35599bbb025a3b0d0", func := "pilaster/pilasterlaw11.RleRuns", spec := "rleRuns", unfollowed := true, recurses := true, apart := false, narrowed := true }
def RleRunsUptoSaid : Prop := rleRunsUptoRow.holds Try.pinned (OpenSpec.upto rleRunsSpec)

/-- 'pilasterlaw11.RlePuts', WHERE WHAT IT READS IS OF BULK AT MOST 1048576: true; the input reads as it did. -/
def rlePutsUptoRow : OpenClaim := { program := "ytfkpifppahbfmaa", sum := "91827f90dbcfd20faba0b31f35ef92c14b7789a316bda9e35599bbb025a3b0d0", func := "pilaster/pilasterlaw11.RlePuts", spec := "rlePuts", unfollowed := true, recurses := true, apart := false, narrowed := true }
def RlePutsUptoSaid : Prop := rlePutsUptoRow.holds Try.pinned (OpenSpec.upto rlePutsSpec)

/-- 'pilasterlaw11.RleShort', WHERE WHAT IT READS IS OF BULK AT MOST 1048576: true; the input reads as it did. -/
def rleShortUptoRow : OpenClaim := { program := "ytfkpifppahbfmaa", sum := "91827f90dbcfd20faba0b31f35ef92c14b7789a316bda9e35599bbb025a3b0d0", func := "pilaster/pilasterlaw11.RleShort", spec := "rleShort", unfollowed := true, recurses := true, apart := false, narrowed := true }
def RleShortUptoSaid : Prop := rleShortUptoRow.holds Try.pinned (OpenSpec.upto rleShortSpec)

/-- 'pilasterlaw11.RleSame', WHERE WHAT IT READS IS OF BULK AT MOST 1048576: true; the input reads as it did. -/
def rleSameUptoRow : OpenClaim := { program := "ytfkpifppahbfmaa", sum := "91827f90dbcfd20faba0b31f35ef92c14b7789a316bda9e35599bbb025a3b0d0", func := "pilaster/pilasterlaw11.RleSame", spec := "rleSame", unfollowed := true, recurses := true, apart := false, narrowed := true }
def RleSameUptoSaid : Prop := rleSameUptoRow.holds Try.pinned (OpenSpec.upto rleSameSpec)

/-- 'pilasterlaw11.RleTakes', WHERE WHAT IT READS IS OF BULK AT MOST 1048576: true; the input reads as it did. -/
def rleTakesUptoRow : OpenClaim := { program := "ytfkpifppahbfmaa", sum := "91827f90dbcfd20faba0b31f35ef92c14b7789a316bda9e35599bbb025a3b0d0", func := "pilaster/pilasterlaw11.RleTakes", spec := "rleTakes", unfollowed := true, recurses := true, apart := false, narrowed := true }
def RleTakesUptoSaid : Prop := rleTakesUptoRow.holds Try.pinned (OpenSpec.upto rleTakesSpec)

/-- 'pilasterlaw11.RleBack', WHERE WHAT IT READS IS OF BULK AT MOST 1048576: true; the input reads as it did. -/
def rleBackUptoRow : OpenClaim := { program := "ytfkpifppahbfmaa", sum := "91827f90dbcfd20faba0b31f35ef92c14b7789a316bda9e35599bbb025a3b0d0", func := "pilaster/pilasterlaw11.RleBack", spec := "rleBack", unfollowed := true, recurses := true, apart := false, narrowed := true }
def RleBackUptoSaid : Prop := rleBackUptoRow.holds Try.pinned (OpenSpec.upto rleBackSpec)

/-- 'pilasterlaw15.TextsWords', WHERE WHAT IT READS IS OF BULK AT MOST 1048576: true; the input reads as it did. -/
def textsWordsUptoRow : OpenClaim := { program := "ytfkpifppahbfmaa", sum := "91827f90dbcfd20faba0b31f35ef92c14b7789a316bda9e35599bbb025a3b0d0", func := "pilaster/pilasterlaw15.TextsWords", spec := "textsWords", inPlace := ["internal/abi.NoEscape", "internal/bytealg.MakeNoZero"], unfollowed := true, recurses := true, apart := false, narrowed := true }
def TextsWordsUptoSaid : Prop := textsWordsUptoRow.holds Try.pinned (OpenSpec.upto textsWordsSpec)

/-- 'pilasterlaw15.TextsKinds', WHERE WHAT IT READS IS OF BULK AT MOST 1048576: true; the input reads as it did. -/
def textsKindsUptoRow : OpenClaim := { program := "ytfkpifppahbfmaa", sum := "91827f90dbcfd20faba0b31f35ef92c14b7789a316bda9e35599bbb025a3b0d0", func := "pilaster/pilasterlaw15.TextsKinds", spec := "textsKinds", inPlace := ["internal/abi.NoEscape", "internal/bytealg.MakeNoZero"], unfollowed := true, recurses := true, apart := false, narrowed := true }
def TextsKindsUptoSaid : Prop := textsKindsUptoRow.holds Try.pinned (OpenSpec.upto textsKindsSpec)

end Rows
end Go.Proofs.Ytfkpifppahbfmaa

/-
  No cell of these rows narrows 'for every input' (looked for: loops, veiled, ifaces, maps, wideKeys, modest, calm, conditions, laid).
  DERIVED. THE GIVEN ROWS OF THIS SEAT. 10 by the template 'for every input the law returns true; each argument reads behind the call as it read before'; 0 by the template 'total and deterministic' (their statements: YtpngbljfboceeaaTotals.lean).
  GIVEN WITH THE SEED: the statements are not yours to turn. If you find one false, say at which input.
  Laid BY PROGRAM, IN A SANDBOX (cutbox-rows.mjs): the forced cells as the released guide's own fill.sh prints them over the translation 5571f55d658e98f7… (all of the seat's roots in one cut). By AI agents, Wed Nov 11 2026. No macro, syntax, notation, axiom, sorry.
-/
import Derived.Test.YtpngbljfboceeaaChecked
import GoSem.Claim
import GoSem.ClaimJoined
import GoSem.ClaimMapViews
import Derived.JoinedTies
import Derived.KernelRfl
namespace Go.Proofs.Ytpngbljfboceeaa
/- THE CELL 'sum', in the pinned program and in every row, IS THE sha256 OF THE DUMP (.gsa) THAT YtpngbljfboceeaaProg.lean LOADS. Nothing in Lean hashes anything: it is a label: what it is worth is what the hold of that sum in a sandbox is worth. -/
noncomputable def Try.pinned : Pinned := { name := "ytpngbljfboceeaa", sum := "5571f55d658e98f7affaaeaf4d337da442b4fdabcf6e601f0bc0f06a890fa43e", checked := Try.checked }
namespace Rows
def none {H : Type} : Left H := { results := [], args := [] }

/-- 'pilasterlaw10.PatchedPuts': WHATEVER THE INPUT: true; the input reads as it did. -/
def patchedPutsSpec : ChangeSpec := { name := "patchedPuts", fn := fun _ => fun
  | [d1, d2, d3] => { results := [.lit (.bool true)], args := [d1, d2, d3] }
  | _ => none }
def patchedPutsRow : OpenClaim := { program := "ytpngbljfboceeaa", sum := "5571f55d658e98f7affaaeaf4d337da442b4fdabcf6e601f0bc0f06a890fa43e", func := "pilaster/pilasterlaw10.PatchedPuts", spec := "patchedPuts", unfollowed := true, recurses := true, apart := false }
def PatchedPutsSaid : Prop := patchedPutsRow.holds Try.pinned (OpenSpec.ofChange patchedPutsSpec)

/-- ITS FALSE NEIGHBOUR: 'it returns false'. Refute it at one input. -/
def patchedPutsWrong : ChangeSpec := { name := "patchedPuts", fn := fun _ => fun
  | [d1, d2, d3] => { results := [.lit (.bool false)], args := [d1, d2, d3] }
  | _ => none }
def PatchedPutsWrongFalsely : Prop := patchedPutsRow.holds Try.pinned (OpenSpec.ofChange patchedPutsWrong)

/-- 'pilasterlaw10.PatchedTakes': WHATEVER THE INPUT: true; the input reads as it did. -/
def patchedTakesSpec : ChangeSpec := { name := "patchedTakes", fn := fun _ => fun
  | [d1, d2] => { results := [.lit (.bool true)], args := [d1, d2] }
  | _ => none }
def patchedTakesRow : OpenClaim := { program := "ytpngbljfboceeaa", sum := "5571f55d658e98f7affaaeaf4d337da442b4fdabcf6e601f0bc0f06a890fa43e", func := "pilaster/pilasterlaw10.PatchedTakes", spec := "patchedTakes", unfollowed := true, recurses := true, apart := false }
def PatchedTakesSaid : Prop := patchedTakesRow.holds Try.pinned (OpenSpec.ofChange patchedTakesSpec)

/-- ITS FALSE NEIGHBOUR: 'it returns false'. Refute it at one input. -/
def patchedTakesWrong : ChangeSpec := { name := "patchedTakes", fn := fun _ => fun
  | [d1, d2] => { results := [.lit (.bool false)], args := [d1, d2] }
  | _ => none }
def PatchedTakesWrongFalsely : Prop := patchedTakesRow.holds Try.pinned (OpenSpec.ofChange patchedTakesWrong)

/-- 'pilasterlaw10.PatchedBack': WHATEVER THE INPUT: true; the input reads as it did. -/
def patchedBackSpec : ChangeSpec := { name := "patchedBack", fn := fun _ => fun
  | [d1, d2, d3] => { results := [.lit (.bool true)], args := [d1, d2, d3] }
  | _ => none }
def patchedBackRow : OpenClaim := { program := "ytpngbljfboceeaa", sum := "5571f55d658e98f7affaaeaf4d337da442b4fdabcf6e601f0bc0f06a890fa43e", func := "pilaster/pilasterlaw10.PatchedBack", spec := "patchedBack", unfollowed := true, recurses := true, apart := false }
def PatchedBackSaid : Prop := patchedBackRow.holds Try.pinned (OpenSpec.ofChange patchedBackSpec)

/-- ITS FALSE NEIGHBOUR: 'it returns false'. Refute it at one input. -/
def patchedBackWrong : ChangeSpec := { name := "patchedBack", fn := fun _ => fun
  | [d1, d2, d3] => { results := [.lit (.bool false)], args := [d1, d2, d3] }
  | _ => none }
def PatchedBackWrongFalsely : Prop := patchedBackRow.holds Try.pinned (OpenSpec.ofChange patchedBackWrong)

/-- 'pilasterlaw10.PatchedFew': WHATEVER THE INPUT: true; the input reads as it did. -/
def patchedFewSpec : ChangeSpec := { name := "patchedFew", fn := fun _ => fun
  | [d1, d2, d3] => { results := [.lit (.bool true)], args := [d1, d2, d3] }
  | _ => none }
def patchedFewRow : OpenClaim := { program := "ytpngbljfboceeaa", sum := "5571f55d658e98f7affaaeaf4d337da442b4fdabcf6e601f0bc0f06a890fa43e", func := "pilaster/pilasterlaw10.PatchedFew", spec := "patchedFew", unfollowed := true, recurses := true, apart := false }
def PatchedFewSaid : Prop := patchedFewRow.holds Try.pinned (OpenSpec.ofChange patchedFewSpec)

/-- ITS FALSE NEIGHBOUR: 'it returns false'. Refute it at one input. -/
def patchedFewWrong : ChangeSpec := { name := "patchedFew", fn := fun _ => fun
  | [d1, d2, d3] => { results := [.lit (.bool false)], args := [d1, d2, d3] }
  | _ => none }
def PatchedFewWrongFalsely : Prop := patchedFewRow.holds Try.pinned (OpenSpec.ofChange patchedFewWrong)

/-- 'pilasterlaw08.DirectPlain': WHATEVER THE INPUT: true; the input reads as it did. -/
def directPlainSpec : ChangeSpec := { name := "directPlain", fn := fun _ => fun
  | [d1, d2, d3] => { results := [.lit (.bool true)], args := [d1, d2, d3] }
  | _ => none }
def directPlainRow : OpenClaim := { program := "ytpngbljfboceeaa", sum := "5571f55d658e98f7affaaeaf4d337da442b4fdabcf6e601f0bc0f06a890fa43e", func := "pilaster/pilasterlaw08.DirectPlain", spec := "directPlain", unfollowed := true, recurses := true, apart := false }
def DirectPlainSaid : Prop := directPlainRow.holds Try.pinned (OpenSpec.ofChange directPlainSpec)

/-- ITS FALSE NEIGHBOUR: 'it returns false'. Refute it at one input. -/
def directPlainWrong : ChangeSpec := { name := "directPlain", fn := fun _ => fun
  | [d1, d2, d3] => { results := [.lit (.bool false)], args := [d1, d2, d3] }
  | _ => none }
def DirectPlainWrongFalsely : Prop := directPlainRow.holds Try.pinned (OpenSpec.ofChange directPlainWrong)

/-- 'pilasterlaw08.DirectTakes': WHATEVER THE INPUT: true; the input reads as it did. -/
def directTakesSpec : ChangeSpec := { name := "directTakes", fn := fun _ => fun
  | [d1, d2] => { results := [.lit (.bool true)], args := [d1, d2] }
  | _ => none }
def directTakesRow : OpenClaim := { program := "ytpngbljfboceeaa", sum := "5571f55d658e98f7affaaeaf4d337da442b4fdabcf6e601f0bc0f06a890fa43e", func := "pilaster/pilasterlaw08.DirectTakes", spec := "directTakes", unfollowed := true, recurses := true, apart := false }
def DirectTakesSaid : Prop := directTakesRow.holds Try.pinned (OpenSpec.ofChange directTakesSpec)

/-- ITS FALSE NEIGHBOUR: 'it returns false'. Refute it at one input. -/
def directTakesWrong : ChangeSpec := { name := "directTakes", fn := fun _ => fun
  | [d1, d2] => { results := [.lit (.bool false)], args := [d1, d2] }
  | _ => none }
def DirectTakesWrongFalsely : Prop := directTakesRow.holds Try.pinned (OpenSpec.ofChange directTakesWrong)

/-- 'pilasterlaw03.BitsPacks': WHATEVER THE INPUT: true; the input reads as it did. -/
def bitsPacksSpec : ChangeSpec := { name := "bitsPacks", fn := fun _ => fun
  | [d1, d2, d3] => { results := [.lit (.bool true)], args := [d1, d2, d3] }
  | _ => none }
def bitsPacksRow : OpenClaim := { program := "ytpngbljfboceeaa", sum := "5571f55d658e98f7affaaeaf4d337da442b4fdabcf6e601f0bc0f06a890fa43e", func := "pilaster/pilasterlaw03.BitsPacks", spec := "bitsPacks", unfollowed := true, recurses := true, apart := false }
def BitsPacksSaid : Prop := bitsPacksRow.holds Try.pinned (OpenSpec.ofChange bitsPacksSpec)

/-- ITS FALSE NEIGHBOUR: 'it returns false'. Refute it at one input. -/
def bitsPacksWrong : ChangeSpec := { name := "bitsPacks", fn := fun _ => fun
  | [d1, d2, d3] => { results := [.lit (.bool false)], args := [d1, d2, d3] }
  | _ => none }
def BitsPacksWrongFalsely : Prop := bitsPacksRow.holds Try.pinned (OpenSpec.ofChange bitsPacksWrong)

/-- 'pilasterlaw02.WidthsCodes': WHATEVER THE INPUT: true; the input reads as it did. -/
def widthsCodesSpec : ChangeSpec := { name := "widthsCodes", fn := fun _ => fun
  | [d1, d2, d3] => { results := [.lit (.bool true)], args := [d1, d2, d3] }
  | _ => none }
def widthsCodesRow : OpenClaim := { program := "ytpngbljfboceeaa", sum := "5571f55d658e98f7affaaeaf4d337da442b4fdabcf6e601f0bc0f06a890fa43e", func := "pilaster/pilasterlaw02.WidthsCodes", spec := "widthsCodes", apart := false }
def WidthsCodesSaid : Prop := widthsCodesRow.holds Try.pinned (OpenSpec.ofChange widthsCodesSpec)

/-- ITS FALSE NEIGHBOUR: 'it returns false'. Refute it at one input. -/
def widthsCodesWrong : ChangeSpec := { name := "widthsCodes", fn := fun _ => fun
  | [d1, d2, d3] => { results := [.lit (.bool false)], args := [d1, d2, d3] }
  | _ => none }
def WidthsCodesWrongFalsely : Prop := widthsCodesRow.holds Try.pinned (OpenSpec.ofChange widthsCodesWrong)

/-- 'pilasterlaw02.WidthsRise': WHATEVER THE INPUT: true; the input reads as it did. -/
def widthsRiseSpec : ChangeSpec := { name := "widthsRise", fn := fun _ => fun
  | [d1, d2, d3] => { results := [.lit (.bool true)], args := [d1, d2, d3] }
  | _ => none }
def widthsRiseRow : OpenClaim := { program := "ytpngbljfboceeaa", sum := "5571f55d658e98f7affaaeaf4d337da442b4fdabcf6e601f0bc0f06a890fa43e", func := "pilaster/pilasterlaw02.WidthsRise", spec := "widthsRise", apart := false }
def WidthsRiseSaid : Prop := widthsRiseRow.holds Try.pinned (OpenSpec.ofChange widthsRiseSpec)

/-- ITS FALSE NEIGHBOUR: 'it returns false'. Refute it at one input. -/
def widthsRiseWrong : ChangeSpec := { name := "widthsRise", fn := fun _ => fun
  | [d1, d2, d3] => { results := [.lit (.bool false)], args := [d1, d2, d3] }
  | _ => none }
def WidthsRiseWrongFalsely : Prop := widthsRiseRow.holds Try.pinned (OpenSpec.ofChange widthsRiseWrong)

/-- 'pilasterlaw09.DeltaDiffs': WHATEVER THE INPUT: true; the input reads as it did. -/
def deltaDiffsSpec : ChangeSpec := { name := "deltaDiffs", fn := fun _ => fun
  | [d1, d2, d3] => { results := [.lit (.bool true)], args := [d1, d2, d3] }
  | _ => none }
def deltaDiffsRow : OpenClaim := { program := "ytpngbljfboceeaa", sum := "5571f55d658e98f7affaaeaf4d337da442b4fdabcf6e601f0bc0f06a890fa43e", func := "pilaster/pilasterlaw09.DeltaDiffs", spec := "deltaDiffs", unfollowed := true, recurses := true, apart := false }
def DeltaDiffsSaid : Prop := deltaDiffsRow.holds Try.pinned (OpenSpec.ofChange deltaDiffsSpec)

/-- ITS FALSE NEIGHBOUR: 'it returns false'. Refute it at one input. -/
def deltaDiffsWrong : ChangeSpec := { name := "deltaDiffs", fn := fun _ => fun
  | [d1, d2, d3] => { results := [.lit (.bool false)], args := [d1, d2, d3] }
  | _ => none }
def DeltaDiffsWrongFalsely : Prop := deltaDiffsRow.holds Try.pinned (OpenSpec.ofChange deltaDiffsWrong)

/- THE SECOND FORM. 'bulk': how many values and letters a reading holds, each counted each time it is reached (what is shared counts as often as it is met; a slice's spare places count too). A statement '..UptoSaid' is the law's where the arguments, and the package variables that the reading takes, are together of bulk at most 1048576: NARROWER than '..Said'. Prove '..Said' where nothing that the law and all that it calls make is longer than what came in: it says more and counts as full. Else prove '..UptoSaid'. A law counts once. -/
mutual
def uptoBulk {H : Type} : DataW H → Nat
  | .lit (.string bytes) => bytes.length + 1
  | .lit _ => 1
  | .nil => 1
  | .ptr d => uptoBulk d + 1
  | .slice elems spare => uptoBulkAll elems + uptoBulkAll spare + 1
  | .agg parts => uptoBulkAll parts + 1
  | .iface _ d => uptoBulk d + 1
  | .map entries => uptoBulkEntries entries + 1
  | .held _ => 1
def uptoBulkAll {H : Type} : List (DataW H) → Nat
  | [] => 0
  | d :: r => uptoBulk d + uptoBulkAll r
def uptoBulkEntries {H : Type} : List (Lit × DataW H) → Nat
  | [] => 0
  | x :: r => uptoBulkEntry x + uptoBulkEntries r
def uptoBulkEntry {H : Type} : Lit × DataW H → Nat
  | (.string bytes, d) => bytes.length + uptoBulk d + 1
  | (_, d) => uptoBulk d + 1
 end
def uptoSmall : (H : Type) → List (DataW H) → Bool := fun _ ds => decide (uptoBulkAll ds ≤ 1048576)
def OpenSpec.upto (s : _root_.Go.ChangeSpec) : _root_.Go.OpenSpec := { _root_.Go.OpenSpec.ofChange s with cond := some uptoSmall }

/-- 'pilasterlaw10.PatchedPuts', WHERE WHAT IT READS IS OF BULK AT MOST 1048576: true; the input reads as it did. -/
def patchedPutsUptoRow : OpenClaim := { program := "ytpngbljfboceeaa", sum := "5571f55d658e98f7affaaeaf4d337da442b4fdabcf6e601f0bc0f06a890fa43e", func := "pilaster/pilasterlaw10.PatchedPuts", spec := "patchedPuts", unfollowed := true, recurses := true, apart := false, narrowed := true }
def PatchedPutsUptoSaid : Prop := patchedPutsUptoRow.holds Try.pinned (OpenSpec.upto patchedPutsSpec)

/-- 'pilasterlaw10.PatchedTakes', WHERE WHAT IT READS IS OF BULK AT MOST 1048576: true; the input reads as it did. -/
def patchedTakesUptoRow : OpenClaim := { program := "ytpngbljfboceeaa", sum := "5571f55d658e98f7affaaeaf4d337da442b4fdabcf6e601f0bc0f06a890fa43e", func := "pilaster/pilasterlaw10.PatchedTakes", spec := "patchedTakes", unfollowed := true, recurses := true, apart := false, narrowed := true }
def PatchedTakesUptoSaid : Prop := patchedTakesUptoRow.holds Try.pinned (OpenSpec.upto patchedTakesSpec)

/-- 'pilasterlaw10.PatchedBack', WHERE WHAT IT READS IS OF BULK AT MOST 1048576: true; the input reads as it did. -/
def patchedBackUptoRow : OpenClaim := { program := "ytpngbljfboceeaa", sum := "5571f55d658e98f7affaaeaf4d337da442b4fdabcf6e601f0bc0f06a890fa43e", func := "pilaster/pilasterlaw10.PatchedBack", spec := "patchedBack", unfollowed := true, recurses := true, apart := false, narrowed := true }
def PatchedBackUptoSaid : Prop := patchedBackUptoRow.holds Try.pinned (OpenSpec.upto patchedBackSpec)

/-- 'pilasterlaw10.PatchedFew', WHERE WHAT IT READS IS OF BULK AT MOST 1048576: true; the input reads as it did. -/
def patchedFewUptoRow : OpenClaim := { program := "ytpngbljfboceeaa", sum := "5571f55d658e98f7affaaeaf4d337da442b4fdabcf6e601f0bc0f06a890fa43e", func := "pilaster/pilasterlaw10.PatchedFew", spec := "patchedFew", unfollowed := true, recurses := true, apart := false, narrowed := true }
def PatchedFewUptoSaid : Prop := patchedFewUptoRow.holds Try.pinned (OpenSpec.upto patchedFewSpec)

/-- 'pilasterlaw08.DirectPlain', WHERE WHAT IT READS IS OF BULK AT MOST 1048576: true; the input reads as it did. -/
def directPlainUptoRow : OpenClaim := { program := "ytpngbljfboceeaa", sum := "5571f55d658e98f7affaaeaf4d337da442b4fdabcf6e601f0bc0f06a890fa43e", func := "pilaster/pilasterlaw08.DirectPlain", spec := "directPlain", unfollowed := true, recurses := true, apart := false, narrowed := true }
def DirectPlainUptoSaid : Prop := directPlainUptoRow.holds Try.pinned (OpenSpec.upto directPlainSpec)

/-- 'pilasterlaw08.DirectTakes', WHERE WHAT IT READS IS OF BULK AT MOST 1048576: true; the input reads as it did. -/
def directTakesUptoRow : OpenClaim := { program := "ytpngbljfboceeaa", sum := "5571f55d658e98f7affaaeaf4d337da442b4fdabcf6e601f0bc0f06a890fa43e", func := "pilaster/pilasterlaw08.DirectTakes", spec := "directTakes", unfollowed := true, recurses := true, apart := false, narrowed := true }
def DirectTakesUptoSaid : Prop := directTakesUptoRow.holds Try.pinned (OpenSpec.upto directTakesSpec)

/-- 'pilasterlaw03.BitsPacks', WHERE WHAT IT READS IS OF BULK AT MOST 1048576: true; the input reads as it did. -/
def bitsPacksUptoRow : OpenClaim := { program := "ytpngbljfboceeaa", sum := "5571f55d658e98f7affaaeaf4d337da442b4fdabcf6e601f0bc0f06a890fa43e", func := "pilaster/pilasterlaw03.BitsPacks", spec := "bitsPacks", unfollowed := true, recurses := true, apart := false, narrowed := true }
def BitsPacksUptoSaid : Prop := bitsPacksUptoRow.holds Try.pinned (OpenSpec.upto bitsPacksSpec)

/-- 'pilasterlaw02.WidthsCodes', WHERE WHAT IT READS IS OF BULK AT MOST 1048576: true; the input reads as it did. -/
def widthsCodesUptoRow : OpenClaim := { program := "ytpngbljfboceeaa", sum := "5571f55d658e98f7affaaeaf4d337da442b4fdabcf6e601f0bc0f06a890fa43e", func := "pilaster/pilasterlaw02.WidthsCodes", spec := "widthsCodes", apart := false, narrowed := true }
def WidthsCodesUptoSaid : Prop := widthsCodesUptoRow.holds Try.pinned (OpenSpec.upto widthsCodesSpec)

/-- 'pilasterlaw02.WidthsRise', WHERE WHAT IT READS IS OF BULK AT MOST 1048576: true; the input reads as it did. -/
def widthsRiseUptoRow : OpenClaim := { program := "ytpngbljfboceeaa", sum := "5571f55d658e98f7affaaeaf4d337da442b4fdabcf6e601f0bc0f06a890fa43e", func := "pilaster/pilasterlaw02.WidthsRise", spec := "widthsRise", apart := false, narrowed := true }
def WidthsRiseUptoSaid : Prop := widthsRiseUptoRow.holds Try.pinned (OpenSpec.upto widthsRiseSpec)

/-- 'pilasterlaw09.DeltaDiffs', WHERE WHAT IT READS IS OF BULK AT MOST 1048576: true; the input reads as it did. -/
def deltaDiffsUptoRow : OpenClaim := { program := "ytpngbljfboceeaa", sum := "5571f55d658e98f7affaaeaf4d337da442b4fdabcf6e601f0bc0f06a890fa43e", func := "pilaster/pilasterlaw09.DeltaDiffs", spec := "deltaDiffs", unfollowed := true, recurses := true, apart := false, narrowed := true }
def DeltaDiffsUptoSaid : Prop := deltaDiffsUptoRow.holds Try.pinned (OpenSpec.upto deltaDiffsSpec)

end Rows
end Go.Proofs.Ytpngbljfboceeaa

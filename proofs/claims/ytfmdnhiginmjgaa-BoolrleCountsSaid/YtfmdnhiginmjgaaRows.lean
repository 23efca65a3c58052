/-
  No cell of these rows narrows 'for every input' (looked for: loops, veiled, ifaces, maps, wideKeys, modest, calm, conditions, laid).
  DERIVED. THE GIVEN ROWS OF THIS SEAT. 7 by the template 'for every input the law returns true; each argument reads behind the call as it read before'; 0 by the template 'total and deterministic' (their statements: YtfmdnhiginmjgaaTotals.lean).
  GIVEN WITH THE SEED: the statements are not yours to turn. If you find one false, say at which input.
  Laid BY PROGRAM, IN A SANDBOX (cutbox-rows.mjs): the forced cells as the released guide's own fill.sh prints them over the translation 2f7f5231cc49874b… (all of the seat's roots in one cut). By AI agents, Wed Nov 11 2026. No macro, syntax, notation, axiom, sorry.
-/
import Derived.Test.YtfmdnhiginmjgaaChecked
import GoSem.Claim
import GoSem.ClaimJoined
import GoSem.ClaimMapViews
import Derived.JoinedTies
import Derived.KernelRfl
namespace Go.Proofs.Ytfmdnhiginmjgaa
/- THE CELL 'sum', in the pinned program and in every row, IS THE sha256 OF THE DUMP (.gsa) THAT YtfmdnhiginmjgaaProg.lean LOADS. Nothing in Lean hashes anything: it is a label: what it is worth is what the hold of that sum in a sandbox is worth. -/
noncomputable def Try.pinned : Pinned := { name := "ytfmdnhiginmjgaa", sum := "2f7f5231cc49874bf4fbd3b683ebefacb6f721369356fce6d73fb3dae3169202", checked := Try.checked }
namespace Rows
def none {H : Type} : Left H := { results := [], args := [] }

/-- 'pilasterlaw06.BoolrlePuts': WHATEVER THE INPUT: true; the input reads as it did. -/
def boolrlePutsSpec : ChangeSpec := { name := "boolrlePuts", fn := fun _ => fun
  | [d] => { results := [.lit (.bool true)], args := [d] }
  | _ => none }
def boolrlePutsRow : OpenClaim := { program := "ytfmdnhiginmjgaa", sum := "2f7f5231cc49874bf4fbd3b683ebefacb6f721369356fce6d73fb3dae3169202", func := "pilaster/pilasterlaw06.BoolrlePuts", spec := "boolrlePuts", inPlace := ["internal/bytealg.MakeNoZero"], unfollowed := true, recurses := true, apart := false }
def BoolrlePutsSaid : Prop := boolrlePutsRow.holds Try.pinned (OpenSpec.ofChange boolrlePutsSpec)

/-- ITS FALSE NEIGHBOUR: 'it returns false'. Refute it at one input. -/
def boolrlePutsWrong : ChangeSpec := { name := "boolrlePuts", fn := fun _ => fun
  | [d] => { results := [.lit (.bool false)], args := [d] }
  | _ => none }
def BoolrlePutsWrongFalsely : Prop := boolrlePutsRow.holds Try.pinned (OpenSpec.ofChange boolrlePutsWrong)

/-- 'pilasterlaw06.BoolrleTakes': WHATEVER THE INPUT: true; the input reads as it did. -/
def boolrleTakesSpec : ChangeSpec := { name := "boolrleTakes", fn := fun _ => fun
  | [d1, d2] => { results := [.lit (.bool true)], args := [d1, d2] }
  | _ => none }
def boolrleTakesRow : OpenClaim := { program := "ytfmdnhiginmjgaa", sum := "2f7f5231cc49874bf4fbd3b683ebefacb6f721369356fce6d73fb3dae3169202", func := "pilaster/pilasterlaw06.BoolrleTakes", spec := "boolrleTakes", inPlace := ["internal/bytealg.MakeNoZero"], unfollowed := true, recurses := true, apart := false }
def BoolrleTakesSaid : Prop := boolrleTakesRow.holds Try.pinned (OpenSpec.ofChange boolrleTakesSpec)

/-- ITS FALSE NEIGHBOUR: 'it returns false'. Refute it at one input. -/
def boolrleTakesWrong : ChangeSpec := { name := "boolrleTakes", fn := fun _ => fun
  | [d1, d2] => { results := [.lit (.bool false)], args := [d1, d2] }
  | _ => none }
def BoolrleTakesWrongFalsely : Prop := boolrleTakesRow.holds Try.pinned (OpenSpec.ofChange boolrleTakesWrong)

/-- 'pilasterlaw06.BoolrleBack': WHATEVER THE INPUT: true; the input reads as it did. -/
def boolrleBackSpec : ChangeSpec := { name := "boolrleBack", fn := fun _ => fun
  | [d1, d2] => { results := [.lit (.bool true)], args := [d1, d2] }
  | _ => none }
def boolrleBackRow : OpenClaim := { program := "ytfmdnhiginmjgaa", sum := "2f7f5231cc49874bf4fbd3b683ebefacb6f721369356fce6d73fb3dae3169202", func := "pilaster/pilasterlaw06.BoolrleBack", spec := "boolrleBack", inPlace := ["internal/bytealg.MakeNoZero"], unfollowed := true, recurses := true, apart := false }
def BoolrleBackSaid : Prop := boolrleBackRow.holds Try.pinned (OpenSpec.ofChange boolrleBackSpec)

/-- ITS FALSE NEIGHBOUR: 'it returns false'. Refute it at one input. -/
def boolrleBackWrong : ChangeSpec := { name := "boolrleBack", fn := fun _ => fun
  | [d1, d2] => { results := [.lit (.bool false)], args := [d1, d2] }
  | _ => none }
def BoolrleBackWrongFalsely : Prop := boolrleBackRow.holds Try.pinned (OpenSpec.ofChange boolrleBackWrong)

/-- 'pilasterlaw06.BoolrleCounts': WHATEVER THE INPUT: true; the input reads as it did. -/
def boolrleCountsSpec : ChangeSpec := { name := "boolrleCounts", fn := fun _ => fun
  | [d1, d2] => { results := [.lit (.bool true)], args := [d1, d2] }
  | _ => none }
def boolrleCountsRow : OpenClaim := { program := "ytfmdnhiginmjgaa", sum := "2f7f5231cc49874bf4fbd3b683ebefacb6f721369356fce6d73fb3dae3169202", func := "pilaster/pilasterlaw06.BoolrleCounts", spec := "boolrleCounts", inPlace := ["internal/bytealg.MakeNoZero"], unfollowed := true, recurses := true, apart := false }
def BoolrleCountsSaid : Prop := boolrleCountsRow.holds Try.pinned (OpenSpec.ofChange boolrleCountsSpec)

/-- ITS FALSE NEIGHBOUR: 'it returns false'. Refute it at one input. -/
def boolrleCountsWrong : ChangeSpec := { name := "boolrleCounts", fn := fun _ => fun
  | [d1, d2] => { results := [.lit (.bool false)], args := [d1, d2] }
  | _ => none }
def BoolrleCountsWrongFalsely : Prop := boolrleCountsRow.holds Try.pinned (OpenSpec.ofChange boolrleCountsWrong)

/-- 'pilasterlaw02.WidthsCodes': WHATEVER THE INPUT: true; the input reads as it did. -/
def widthsCodesSpec : ChangeSpec := { name := "widthsCodes", fn := fun _ => fun
  | [d1, d2, d3] => { results := [.lit (.bool true)], args := [d1, d2, d3] }
  | _ => none }
def widthsCodesRow : OpenClaim := { program := "ytfmdnhiginmjgaa", sum := "2f7f5231cc49874bf4fbd3b683ebefacb6f721369356fce6d73fb3dae3169202", func := "pilaster/pilasterlaw02.WidthsCodes", spec := "widthsCodes", apart := false }
def WidthsCodesSaid : Prop := widthsCodesRow.holds Try.pinned (OpenSpec.ofChange widthsCodesSpec)

/-- ITS FALSE NEIGHBOUR: 'it returns false'. Refute it at one input. -/
def widthsCodesWrong : ChangeSpec := { name := "widthsCodes", fn := fun _ => fun
  | [d1, d2, d3] => { results := [.lit (.bool false)], args := [d1, d2, d3] }
  | _ => none }
def WidthsCodesWrongFalsely : Prop := widthsCodesRow.holds Try.pinned (OpenSpec.ofChange widthsCodesWrong)

/-- 'pilasterlaw02.WidthsRise': WHATEVER THE INPUT: true; the input reads as it did. -/
def widthsRiseSpec : ChangeSpec := { name := "widthsRise", fn := fun _ => fun
  | [d1, d2, d3] => { results := [.lit (.bool true)], args := [d1, d2, d3] }
  | _ => none }
def widthsRiseRow : OpenClaim := { program := "ytfmdnhiginmjgaa", sum := "2f7f5231cc49874bf4fbd3b683ebefacb6f721369356fce6d73fb3dae3169202", func := "pilaster/pilasterlaw02.WidthsRise", spec := "widthsRise", apart := false }
def WidthsRiseSaid : Prop := widthsRiseRow.holds Try.pinned (OpenSpec.ofChange widthsRiseSpec)

/-- ITS FALSE NEIGHBOUR: 'it returns false'. Refute it at one input. -/
def widthsRiseWrong : ChangeSpec := { name := "widthsRise", fn := fun _ => fun
  | [d1, d2, d3] => { results := [.lit (.bool false)], args := [d1, d2, d3] }
  | _ => none }
def WidthsRiseWrongFalsely : Prop := widthsRiseRow.holds Try.pinned (OpenSpec.ofChange widthsRiseWrong)

/-- 'pilasterlaw03.BitsPacks': WHATEVER THE INPUT: true; the input reads as it did. -/
def bitsPacksSpec : ChangeSpec := { name := "bitsPacks", fn := fun _ => fun
  | [d1, d2, d3] => { results := [.lit (.bool true)], args := [d1, d2, d3] }
  | _ => none }
def bitsPacksRow : OpenClaim := { program := "ytfmdnhiginmjgaa", sum := "2f7f5231cc49874bf4fbd3b683ebefacb6f721369356fce6d73fb3dae3169202", func := "pilaster/pilasterlaw03.BitsPacks", spec := "bitsPacks", unfollowed := true, recurses := true, apart := false }
def BitsPacksSaid : Prop := bitsPacksRow.holds Try.pinned (OpenSpec.ofChange bitsPacksSpec)

/-- ITS FALSE NEIGHBOUR: 'it returns false'. Refute it at one input. -/
def bitsPacksWrong : ChangeSpec := { name := "bitsPacks", fn := fun _ => fun
  | [d1, d2, d3] => { results := [.lit (.bool false)], args := [d1, d2, d3] }
  | _ => none }
def BitsPacksWrongFalsely : Prop := bitsPacksRow.holds Try.pinned (OpenSpec.ofChange bitsPacksWrong)

/- THE SECOND FORM. 'bulk': how many values and letters a reading holds, each counted each time it is reached (what is shared counts as often as it is met; a slice's spare places count too). A statement '..UptoSaid' is the law's where the arguments, and the package variables that the reading takes, are together of bulk at most 1048576: NARROWER than '..Said'. Prove '..Said' where nothing that the law and all that it calls make is longer than what came in: it says more and counts as full. Else prove '..UptoSaid'. A law counts once. -/
mutual
def uptoBulk {H : Type} : DataW H → Nat
  | .lit (.string bytes) => bytes.length + 1
  | .lit _ => 1
  | .nil => 1
  | .ptr d => uptoBulk d + 1
  | .slice elems spare => uptoBulkAll elems + uptoBulkAll spare + 1
  | .agg parts => uptoBulkAll parts + 1
  | .iface _ d => uptoBulk d + 1
  | .map entries => uptoBulkEntries entries + 1
  | .held _ => 1
def uptoBulkAll {H : Type} : List (DataW H) → Nat
  | [] => 0
  | d :: r => uptoBulk d + uptoBulkAll r
def uptoBulkEntries {H : Type} : List (Lit × DataW H) → Nat
  | [] => 0
  | x :: r => uptoBulkEntry x + uptoBulkEntries r
def uptoBulkEntry {H : Type} : Lit × DataW H → Nat
  | (.string bytes, d) => bytes.length + uptoBulk d + 1
  | (_, d) => uptoBulk d + 1
 end
def uptoSmall : (H : Type) → List (DataW H) → Bool := fun _ ds => decide (uptoBulkAll ds ≤ 1048576)
def OpenSpec.upto (s : _root_.Go.ChangeSpec) : _root_.Go.OpenSpec := { _root_.Go.OpenSpec.ofChange s with cond := some uptoSmall }

/-- 'pilasterlaw06.BoolrlePuts', WHERE WHAT IT READS IS OF BULK AT MOST 1048576: true; the input reads as it did. -/
def boolrlePutsUptoRow : OpenClaim := { program := "ytfmdnhiginmjgaa", sum := "2f7f5231cc49874bf4fbd3b683ebefacb6f721369356fce6d73fb3dae3169202", func := "pilaster/pilasterlaw06.BoolrlePuts", spec := "boolrlePuts", inPlace := ["internal/bytealg.MakeNoZero"], unfollowed := true, recurses := true, apart := false, narrowed := true }
def BoolrlePutsUptoSaid : Prop := boolrlePutsUptoRow.holds Try.pinned (OpenSpec.upto boolrlePutsSpec)

/-- 'pilasterlaw06.BoolrleTakes', WHERE WHAT IT READS IS OF BULK AT MOST 1048576: true; the input reads as it did. -/
def boolrleTakesUptoRow : OpenClaim := { program := "ytfmdnhiginmjgaa", sum := "2f7f5231cc49874bf4fbd3b683ebefacb6f721369356fce6d73fb3dae3169202", func := "pilaster/pilasterlaw06.BoolrleTakes", spec := "boolrleTakes", inPlace := ["internal/bytealg.MakeNoZero"], unfollowed := true, recurses := true, apart := false, narrowed := true }
def BoolrleTakesUptoSaid : Prop := boolrleTakesUptoRow.holds Try.pinned (OpenSpec.upto boolrleTakesSpec)

/-- 'pilasterlaw06.BoolrleBack', WHERE WHAT IT READS IS OF BULK AT MOST 1048576: true; the input reads as it did. -/
def boolrleBackUptoRow : OpenClaim := { program := "ytfmdnhiginmjgaa", sum := "2f7f5231cc49874bf4fbd3b683ebefacb6f721369356fce6d73fb3dae3169202", func := "pilaster/pilasterlaw06.BoolrleBack", spec := "boolrleBack", inPlace := ["internal/bytealg.MakeNoZero"], unfollowed := true, recurses := true, apart := false, narrowed := true }
def BoolrleBackUptoSaid : Prop := boolrleBackUptoRow.holds Try.pinned (OpenSpec.upto boolrleBackSpec)

/-- 'pilasterlaw06.BoolrleCounts', WHERE WHAT IT READS IS OF BULK AT MOST 1048576: true; the input reads as it did. -/
def boolrleCountsUptoRow : OpenClaim := { program := "ytfmdnhiginmjgaa", sum := "2f7f5231cc49874bf4fbd3b683ebefacb6f721369356fce6d73fb3dae3169202", func := "pilaster/pilasterlaw06.BoolrleCounts", spec := "boolrleCounts", inPlace := ["internal/bytealg.MakeNoZero"], unfollowed := true, recurses := true, apart := false, narrowed := true }
def BoolrleCountsUptoSaid : Prop := boolrleCountsUptoRow.holds Try.pinned (OpenSpec.upto boolrleCountsSpec)

/-- 'pilasterlaw02.WidthsCodes', WHERE WHAT IT READS IS OF BULK AT MOST 1048576: true; the input reads as it did. -/
def widthsCodesUptoRow : OpenClaim := { program := "ytfmdnhiginmjgaa", sum := "2f7f5231cc49874bf4fbd3b683ebefacb6f721369356fce6d73fb3dae3169202", func := "pilaster/pilasterlaw02.WidthsCodes", spec := "widthsCodes", apart := false, narrowed := true }
def WidthsCodesUptoSaid : Prop := widthsCodesUptoRow.holds Try.pinned (OpenSpec.upto widthsCodesSpec)

/-- 'pilasterlaw02.WidthsRise', WHERE WHAT IT READS IS OF BULK AT MOST 1048576: true; the input reads as it did. -/
def widthsRiseUptoRow : OpenClaim := { program := "ytfmdnhiginmjgaa", sum := "2f7f5231cc49874bf4fbd3b683ebefacb6f721369356fce6d73fb3dae3169202", func := "pilaster/pilasterlaw02.WidthsRise", spec := "widthsRise", apart := false, narrowed := true }
def WidthsRiseUptoSaid : Prop := widthsRiseUptoRow.holds Try.pinned (OpenSpec.upto widthsRiseSpec)

/-- 'pilasterlaw03.BitsPacks', WHERE WHAT IT READS IS OF BULK AT MOST 1048576: true; the input reads as it did. -/
def bitsPacksUptoRow : OpenClaim := { program := "ytfmdnhiginmjgaa", sum := "2f7f5231cc49874bf4fbd3b683ebefacb6f721369356fce6d73fb3dae3169202", func := "pilaster/pilasterlaw03.BitsPacks", spec := "bitsPacks", unfollowed := true, recurses := true, apart := false, narrowed := true }
def BitsPacksUptoSaid : Prop := bitsPacksUptoRow.holds Try.pinned (OpenSpec.upto bitsPacksSpec)

end Rows
end Go.Proofs.Ytfmdnhiginmjgaa

/-
  No cell of these rows narrows 'for every input' (looked for: loops, veiled, ifaces, maps, wideKeys, modest, calm, conditions, laid).
  DERIVED. THE GIVEN ROWS OF THIS SEAT. 5 by the template 'for every input the law returns true; each argument reads behind the call as it read before'; 0 by the template 'total and deterministic' (their statements: YtglfbjaiofjlpaaTotals.lean).
  GIVEN WITH THE SEED: the statements are not yours to turn. If you find one false, say at which input.
  Laid BY PROGRAM, IN A SANDBOX (cutbox-rows.mjs): the forced cells as the released guide's own fill.sh prints them over the translation be8df196a5a67bf1… (all of the seat's roots in one cut). By AI agents, Wed Nov 11 2026. No macro, syntax, notation, axiom, sorry.
-/
import Derived.Test.YtglfbjaiofjlpaaChecked
import GoSem.Claim
import GoSem.ClaimJoined
import GoSem.ClaimMapViews
import Derived.JoinedTies
import Derived.KernelRfl
namespace Go.Proofs.Ytglfbjaiofjlpaa
/- THE CELL 'sum', in the pinned program and in every row, IS THE sha256 OF THE DUMP (.gsa) THAT YtglfbjaiofjlpaaProg.lean LOADS. Nothing in Lean hashes anything: it is a label: what it is worth is what the hold of that sum in a sandbox is worth. -/
noncomputable def Try.pinned : Pinned := { name := "ytglfbjaiofjlpaa", sum := "be8df196a5a67bf1436330ec699414b0aa74634b39ff9b5a9d8cb1a2cbac68a2", checked := Try.checked }
namespace Rows
def none {H : Type} : Left H := { results := [], args := [] }

/-- 'pilasterlaw08.DirectPuts': WHATEVER THE INPUT: true; the input reads as it did. -/
def directPutsSpec : ChangeSpec := { name := "directPuts", fn := fun _ => fun
  | [d1, d2] => { results := [.lit (.bool true)], args := [d1, d2] }
  | _ => none }
def directPutsRow : OpenClaim := { program := "ytglfbjaiofjlpaa", sum := "be8df196a5a67bf1436330ec699414b0aa74634b39ff9b5a9d8cb1a2cbac68a2", func := "pilaster/pilasterlaw08.DirectPuts", spec := "directPuts", unfollowed := true, recurses := true, apart := false }
def DirectPutsSaid : Prop := directPutsRow.holds Try.pinned (OpenSpec.ofChange directPutsSpec)

/-- ITS FALSE NEIGHBOUR: 'it returns false'. Refute it at one input. -/
def directPutsWrong : ChangeSpec := { name := "directPuts", fn := fun _ => fun
  | [d1, d2] => { results := [.lit (.bool false)], args := [d1, d2] }
  | _ => none }
def DirectPutsWrongFalsely : Prop := directPutsRow.holds Try.pinned (OpenSpec.ofChange directPutsWrong)

/-- 'pilasterlaw08.DirectPlain': WHATEVER THE INPUT: true; the input reads as it did. -/
def directPlainSpec : ChangeSpec := { name := "directPlain", fn := fun _ => fun
  | [d1, d2, d3] => { results := [.lit (.bool true)], args := [d1, d2, d3] }
  | _ => none }
def directPlainRow : OpenClaim := { program := "ytglfbjaiofjlpaa", sum := "be8df196a5a67bf1436330ec699414b0aa74634b39ff9b5a9d8cb1a2cbac68a2", func := "pilaster/pilasterlaw08.DirectPlain", spec := "directPlain", unfollowed := true, recurses := true, apart := false }
def DirectPlainSaid : Prop := directPlainRow.holds Try.pinned (OpenSpec.ofChange directPlainSpec)

/-- ITS FALSE NEIGHBOUR: 'it returns false'. Refute it at one input. -/
def directPlainWrong : ChangeSpec := { name := "directPlain", fn := fun _ => fun
  | [d1, d2, d3] => { results := [.lit (.bool false)], args := [d1, d2, d3] }
  | _ => none }
def DirectPlainWrongFalsely : Prop := directPlainRow.holds Try.pinned (OpenSpec.ofChange directPlainWrong)

/-- 'pilasterlaw08.DirectHeads': WHATEVER THE INPUT: true; the input reads as it did. -/
def directHeadsSpec : ChangeSpec := { name := "directHeads", fn := fun _ => fun
  | [d1, d2] => { results := [.lit (.bool true)], args := [d1, d2] }
  | _ => none }
def directHeadsRow : OpenClaim := { program := "ytglfbjaiofjlpaa", sum := "be8df196a5a67bf1436330ec699414b0aa74634b39ff9b5a9d8cb1a2cbac68a2", func := "pilaster/pilasterlaw08.DirectHeads", spec := "directHeads", unfollowed := true, recurses := true, apart := false }
def DirectHeadsSaid : Prop := directHeadsRow.holds Try.pinned (OpenSpec.ofChange directHeadsSpec)

/-- ITS FALSE NEIGHBOUR: 'it returns false'. Refute it at one input. -/
def directHeadsWrong : ChangeSpec := { name := "directHeads", fn := fun _ => fun
  | [d1, d2] => { results := [.lit (.bool false)], args := [d1, d2] }
  | _ => none }
def DirectHeadsWrongFalsely : Prop := directHeadsRow.holds Try.pinned (OpenSpec.ofChange directHeadsWrong)

/-- 'pilasterlaw08.DirectTakes': WHATEVER THE INPUT: true; the input reads as it did. -/
def directTakesSpec : ChangeSpec := { name := "directTakes", fn := fun _ => fun
  | [d1, d2] => { results := [.lit (.bool true)], args := [d1, d2] }
  | _ => none }
def directTakesRow : OpenClaim := { program := "ytglfbjaiofjlpaa", sum := "be8df196a5a67bf1436330ec699414b0aa74634b39ff9b5a9d8cb1a2cbac68a2", func := "pilaster/pilasterlaw08.DirectTakes", spec := "directTakes", unfollowed := true, recurses := true, apart := false }
def DirectTakesSaid : Prop := directTakesRow.holds Try.pinned (OpenSpec.ofChange directTakesSpec)

/-- ITS FALSE NEIGHBOUR: 'it returns false'. Refute it at one input. -/
def directTakesWrong : ChangeSpec := { name := "directTakes", fn := fun _ => fun
  | [d1, d2] => { results := [.lit (.bool false)], args := [d1, d2] }
  | _ => none }
def DirectTakesWrongFalsely : Prop := directTakesRow.holds Try.pinned (OpenSpec.ofChange directTakesWrong)

/-- 'pilasterlaw08.DirectBack': WHATEVER THE INPUT: true; the input reads as it did. -/
def directBackSpec : ChangeSpec := { name := "directBack", fn := fun _ => fun
  | [d1, d2, d3] => { results := [.lit (.bool true)], args := [d1, d2, d3] }
  | _ => none }
def directBackRow : OpenClaim := { program := "ytglfbjaiofjlpaa", sum := "be8df196a5a67bf1436330ec699414b0aa74634b39ff9b5a9d8cb1a2cbac68a2", func := "pilaster/pilasterlaw08.DirectBack", spec := "directBack", unfollowed := true, recurses := true, apart := false }
def DirectBackSaid : Prop := directBackRow.holds Try.pinned (OpenSpec.ofChange directBackSpec)

/-- ITS FALSE NEIGHBOUR: 'it returns false'. Refute it at one input. -/
def directBackWrong : ChangeSpec := { name := "directBack", fn := fun _ => fun
  | [d1, d2, d3] => { results := [.lit (.bool false)], args := [d1, d2, d3] }
  | _ => none }
def DirectBackWrongFalsely : Prop := directBackRow.holds Try.pinned (OpenSpec.ofChange directBackWrong)

/- THE SECOND FORM. 'bulk': how many values and letters a reading holds, each counted each time it is reached (what is shared counts as often as it is met; a slice's spare places count too). A statement '..UptoSaid' is the law's where the arguments, and the package variables that the reading takes, are together of bulk at most 1048576: NARROWER than '..Said'. Prove '..Said' where nothing that the law and all that it calls make is longer than what came in: it says more and counts as full. Else prove '..UptoSaid'. A law counts once. -/
mutual
def uptoBulk {H : Type} : DataW H → Nat
  | .lit (.string bytes) => bytes.length + 1
  | .lit _ => 1
  | .nil => 1
  | .ptr d => uptoBulk d + 1
  | .slice elems spare => uptoBulkAll elems + uptoBulkAll spare + 1
  | .agg parts => uptoBulkAll parts + 1
  | .iface _ d => uptoBulk d + 1
  | .map entries => uptoBulkEntries entries + 1
  | .held _ => 1
def uptoBulkAll {H : Type} : List (DataW H) → Nat
  | [] => 0
  | d :: r => uptoBulk d + uptoBulkAll r
def uptoBulkEntries {H : Type} : List (Lit × DataW H) → Nat
  | [] => 0
  | x :: r => uptoBulkEntry x + uptoBulkEntries r
def uptoBulkEntry {H : Type} : Lit × DataW H → Nat
  | (.string bytes, d) => bytes.length + uptoBulk d + 1
  | (_, d) => uptoBulk d + 1
 end
def uptoSmall : (H : Type) → List (DataW H) → Bool := fun _ ds => decide (uptoBulkAll ds ≤ 1048576)
def OpenSpec.upto (s : _root_.Go.ChangeSpec) : _root_.Go.OpenSpec := { _root_.Go.OpenSpec.ofChange s with cond := some uptoSmall }

/-- 'pilasterlaw08.DirectPuts', WHERE WHAT IT READS IS OF BULK AT MOST 1048576: true; the input reads as it did. -/
def directPutsUptoRow : OpenClaim := { program := "ytglfbjaiofjlpaa", sum := "be8df196a5a67bf1436330ec699414b0aa74634b39ff9b5a9d8cb1a2cbac68a2", func := "pilaster/pilasterlaw08.DirectPuts", spec := "directPuts", unfollowed := true, recurses := true, apart := false, narrowed := true }
def DirectPutsUptoSaid : Prop := directPutsUptoRow.holds Try.pinned (OpenSpec.upto directPutsSpec)

/-- 'pilasterlaw08.DirectPlain', WHERE WHAT IT READS IS OF BULK AT MOST 1048576: true; the input reads as it did. -/
def directPlainUptoRow : OpenClaim := { program := "ytglfbjaiofjlpaa", sum := "be8df196a5a67bf1436330ec699414b0aa74634b39ff9b5a9d8cb1a2cbac68a2", func := "pilaster/pilasterlaw08.DirectPlain", spec := "directPlain", unfollowed := true, recurses := true, apart := false, narrowed := true }
def DirectPlainUptoSaid : Prop := directPlainUptoRow.holds Try.pinned (OpenSpec.upto directPlainSpec)

/-- 'pilasterlaw08.DirectHeads', WHERE WHAT IT READS IS OF BULK AT MOST 1048576: true; the input reads as it did. -/
def directHeadsUptoRow : OpenClaim := { program := "ytglfbjaiofjlpaa", sum := "be8df196a5a67bf1436330ec699414b0aa74634b39ff9b5a9d8cb1a2cbac68a2", func := "pilaster/pilasterlaw08.DirectHeads", spec := "directHeads", unfollowed := true, recurses := true, apart := false, narrowed := true }
def DirectHeadsUptoSaid : Prop := directHeadsUptoRow.holds Try.pinned (OpenSpec.upto directHeadsSpec)

/-- 'pilasterlaw08.DirectTakes', WHERE WHAT IT READS IS OF BULK AT MOST 1048576: true; the input reads as it did. -/
def directTakesUptoRow : OpenClaim := { program := "ytglfbjaiofjlpaa", sum := "be8df196a5a67bf1436330ec699414b0aa74634b39ff9b5a9d8cb1a2cbac68a2", func := "pilaster/pilasterlaw08.DirectTakes", spec := "directTakes", unfollowed := true, recurses := true, apart := false, narrowed := true }
def DirectTakesUptoSaid : Prop := directTakesUptoRow.holds Try.pinned (OpenSpec.upto directTakesSpec)

/-- 'pilasterlaw08.DirectBack', WHERE WHAT IT READS IS OF BULK AT MOST 1048576: true; the input reads as it did. -/
def directBackUptoRow : OpenClaim := { program := "ytglfbjaiofjlpaa", sum := "be8df196a5a67bf1436330ec699414b0aa74634b39ff9b5a9d8cb1a2cbac68a2", func := "pilaster/pilasterlaw08.DirectBack", spec := "directBack", unfollowed := true, recurses := true, apart := false, narrowed := true }
def DirectBackUptoSaid : Prop := directBackUptoRow.holds Try.pinned (OpenSpec.upto directBackSpec)

end Rows
end Go.Proofs.Ytglfbjaiofjlpaa

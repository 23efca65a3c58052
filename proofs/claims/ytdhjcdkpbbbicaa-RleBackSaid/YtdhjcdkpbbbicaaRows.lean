/-
  No cell of these rows narrows 'for every input' (looked for: loops, veiled, ifaces, maps, wideKeys, modest, calm, conditions, laid).
  DERIVED. THE GIVEN ROWS OF THIS SEAT. 8 by the template 'for every input the law returns true; each argument reads behind the call as it read before'; 0 by the template 'total and deterministic' (their statements: YtdhjcdkpbbbicaaTotals.lean).
  GIVEN WITH THE SEED: the statements are not yours to turn. If you find one false, say at which input.
  Laid BY PROGRAM, IN A SANDBOX (cutbox-rows.mjs): the forced cells as the released guide's own fill.sh prints them over the translation 086f71fd9716dbc4… (all of the seat's roots in one cut). By AI agents, Wed Nov 11 2026. No macro, syntax, notation, axiom, sorry.
-/
import Derived.Test.YtdhjcdkpbbbicaaChecked
import GoSem.Claim
import GoSem.ClaimJoined
import GoSem.ClaimMapViews
import Derived.JoinedTies
import Derived.KernelRfl
namespace Go.Proofs.Ytdhjcdkpbbbicaa
/- THE CELL 'sum', in the pinned program and in every row, IS THE sha256 OF THE DUMP (.gsa) THAT YtdhjcdkpbbbicaaProg.lean LOADS. Nothing in Lean hashes anything: it is a label: what it is worth is what the hold of that sum in a sandbox is worth. -/
noncomputable def Try.pinned : Pinned := { name := "ytdhjcdkpbbbicaa", sum := "086f71fd9716dbc4adf4d891eb68c97ad90ad73aa4f6b5c90d4b4650a73b1073", checked := Try.checked }
namespace Rows
def none {H : Type} : Left H := { results := [], args := [] }

/-- 'pilasterlaw11.RleRuns': WHATEVER THE INPUT: true; the input reads as it did. -/
def rleRunsSpec : ChangeSpec := { name := "rleRuns", fn := fun _ => fun
  | [d1, d2] => { results := [.lit (.bool true)], args := [d1, d2] }
  | _ => none }
def rleRunsRow : OpenClaim := { program := "ytdhjcdkpbbbicaa", sum := "086f71fd9716dbc4adf4d891eb68c97ad90ad73aa4f6b5c90d4b4650a73b1073", func := "pilaster/pilasterlaw11.RleRuns", spec := "rleRuns", unfollowed := true, recurses := true, apart := false }
def RleRunsSaid : Prop := rleRunsRow.holds Try.pinned (OpenSpec.ofChange rleRunsSpec)

/-- ITS FALSE NEIGHBOUR: 'it returns false'. Refute it at one input. -/
def rleRunsWrong : ChangeSpec := { name := "rleRuns", fn := fun _ => fun
  | [d1, d2] => { results := [.lit (.bool false)], args := [d1, d2] }
  | _ => none }
def RleRunsWrongFalsely : Prop := rleRunsRow.holds Try.pinned (OpenSpec.ofChange rleRunsWrong)

/-- 'pilasterlaw11.RlePuts': WHATEVER THE INPUT: true; the input reads as it did. -/
def rlePutsSpec : ChangeSpec := { name := "rlePuts", fn := fun _ => fun
  | [d1, d2] => { results := [.lit (.bool true)], args := [d1, d2] }
  | _ => none }
def rlePutsRow : OpenClaim := { program := "ytdhjcdkpbbbicaa", sum := "086f71fd9716dbc4adf4d891eb68c97ad90ad73aa4f6b5c90d4b4650a73b1073", func := "pilaster/pilasterlaw11.RlePuts", spec := "rlePuts", unfollowed := true, recurses := true, apart := false }
def RlePutsSaid : Prop := rlePutsRow.holds Try.pinned (OpenSpec.ofChange rlePutsSpec)

/-- ITS FALSE NEIGHBOUR: 'it returns false'. Refute it at one input. -/
def rlePutsWrong : ChangeSpec := { name := "rlePuts", fn := fun _ => fun
  | [d1, d2] => { results := [.lit (.bool false)], args := [d1, d2] }
  | _ => none }
def RlePutsWrongFalsely : Prop := rlePutsRow.holds Try.pinned (OpenSpec.ofChange rlePutsWrong)

/-- 'pilasterlaw11.RleShort': WHATEVER THE INPUT: true; the input reads as it did. -/
def rleShortSpec : ChangeSpec := { name := "rleShort", fn := fun _ => fun
  | [d1, d2] => { results := [.lit (.bool true)], args := [d1, d2] }
  | _ => none }
def rleShortRow : OpenClaim := { program := "ytdhjcdkpbbbicaa", sum := "086f71fd9716dbc4adf4d891eb68c97ad90ad73aa4f6b5c90d4b4650a73b1073", func := "pilaster/pilasterlaw11.RleShort", spec := "rleShort", unfollowed := true, recurses := true, apart := false }
def RleShortSaid : Prop := rleShortRow.holds Try.pinned (OpenSpec.ofChange rleShortSpec)

/-- ITS FALSE NEIGHBOUR: 'it returns false'. Refute it at one input. -/
def rleShortWrong : ChangeSpec := { name := "rleShort", fn := fun _ => fun
  | [d1, d2] => { results := [.lit (.bool false)], args := [d1, d2] }
  | _ => none }
def RleShortWrongFalsely : Prop := rleShortRow.holds Try.pinned (OpenSpec.ofChange rleShortWrong)

/-- 'pilasterlaw11.RleSame': WHATEVER THE INPUT: true; the input reads as it did. -/
def rleSameSpec : ChangeSpec := { name := "rleSame", fn := fun _ => fun
  | [d1, d2, d3] => { results := [.lit (.bool true)], args := [d1, d2, d3] }
  | _ => none }
def rleSameRow : OpenClaim := { program := "ytdhjcdkpbbbicaa", sum := "086f71fd9716dbc4adf4d891eb68c97ad90ad73aa4f6b5c90d4b4650a73b1073", func := "pilaster/pilasterlaw11.RleSame", spec := "rleSame", unfollowed := true, recurses := true, apart := false }
def RleSameSaid : Prop := rleSameRow.holds Try.pinned (OpenSpec.ofChange rleSameSpec)

/-- ITS FALSE NEIGHBOUR: 'it returns false'. Refute it at one input. -/
def rleSameWrong : ChangeSpec := { name := "rleSame", fn := fun _ => fun
  | [d1, d2, d3] => { results := [.lit (.bool false)], args := [d1, d2, d3] }
  | _ => none }
def RleSameWrongFalsely : Prop := rleSameRow.holds Try.pinned (OpenSpec.ofChange rleSameWrong)

/-- 'pilasterlaw11.RleTakes': WHATEVER THE INPUT: true; the input reads as it did. -/
def rleTakesSpec : ChangeSpec := { name := "rleTakes", fn := fun _ => fun
  | [d1, d2, d3] => { results := [.lit (.bool true)], args := [d1, d2, d3] }
  | _ => none }
def rleTakesRow : OpenClaim := { program := "ytdhjcdkpbbbicaa", sum := "086f71fd9716dbc4adf4d891eb68c97ad90ad73aa4f6b5c90d4b4650a73b1073", func := "pilaster/pilasterlaw11.RleTakes", spec := "rleTakes", unfollowed := true, recurses := true, apart := false }
def RleTakesSaid : Prop := rleTakesRow.holds Try.pinned (OpenSpec.ofChange rleTakesSpec)

/-- ITS FALSE NEIGHBOUR: 'it returns false'. Refute it at one input. -/
def rleTakesWrong : ChangeSpec := { name := "rleTakes", fn := fun _ => fun
  | [d1, d2, d3] => { results := [.lit (.bool false)], args := [d1, d2, d3] }
  | _ => none }
def RleTakesWrongFalsely : Prop := rleTakesRow.holds Try.pinned (OpenSpec.ofChange rleTakesWrong)

/-- 'pilasterlaw11.RleBack': WHATEVER THE INPUT: true; the input reads as it did. -/
def rleBackSpec : ChangeSpec := { name := "rleBack", fn := fun _ => fun
  | [d1, d2, d3] => { results := [.lit (.bool true)], args := [d1, d2, d3] }
  | _ => none }
def rleBackRow : OpenClaim := { program := "ytdhjcdkpbbbicaa", sum := "086f71fd9716dbc4adf4d891eb68c97ad90ad73aa4f6b5c90d4b4650a73b1073", func := "pilaster/pilasterlaw11.RleBack", spec := "rleBack", unfollowed := true, recurses := true, apart := false }
def RleBackSaid : Prop := rleBackRow.holds Try.pinned (OpenSpec.ofChange rleBackSpec)

/-- ITS FALSE NEIGHBOUR: 'it returns false'. Refute it at one input. -/
def rleBackWrong : ChangeSpec := { name := "rleBack", fn := fun _ => fun
  | [d1, d2, d3] => { results := [.lit (.bool false)], args := [d1, d2, d3] }
  | _ => none }
def RleBackWrongFalsely : Prop := rleBackRow.holds Try.pinned (OpenSpec.ofChange rleBackWrong)

/-- 'pilasterlaw08.DirectPlain': WHATEVER THE INPUT: true; the input reads as it did. -/
def directPlainSpec : ChangeSpec := { name := "directPlain", fn := fun _ => fun
  | [d1, d2, d3] => { results := [.lit (.bool true)], args := [d1, d2, d3] }
  | _ => none }
def directPlainRow : OpenClaim := { program := "ytdhjcdkpbbbicaa", sum := "086f71fd9716dbc4adf4d891eb68c97ad90ad73aa4f6b5c90d4b4650a73b1073", func := "pilaster/pilasterlaw08.DirectPlain", spec := "directPlain", unfollowed := true, recurses := true, apart := false }
def DirectPlainSaid : Prop := directPlainRow.holds Try.pinned (OpenSpec.ofChange directPlainSpec)

/-- ITS FALSE NEIGHBOUR: 'it returns false'. Refute it at one input. -/
def directPlainWrong : ChangeSpec := { name := "directPlain", fn := fun _ => fun
  | [d1, d2, d3] => { results := [.lit (.bool false)], args := [d1, d2, d3] }
  | _ => none }
def DirectPlainWrongFalsely : Prop := directPlainRow.holds Try.pinned (OpenSpec.ofChange directPlainWrong)

/-- 'pilasterlaw09.DeltaDiffs': WHATEVER THE INPUT: true; the input reads as it did. -/
def deltaDiffsSpec : ChangeSpec := { name := "deltaDiffs", fn := fun _ => fun
  | [d1, d2, d3] => { results := [.lit (.bool true)], args := [d1, d2, d3] }
  | _ => none }
def deltaDiffsRow : OpenClaim := { program := "ytdhjcdkpbbbicaa", sum := "086f71fd9716dbc4adf4d891eb68c97ad90ad73aa4f6b5c90d4b4650a73b1073", func := "pilaster/pilasterlaw09.DeltaDiffs", spec := "deltaDiffs", unfollowed := true, recurses := true, apart := false }
def DeltaDiffsSaid : Prop := deltaDiffsRow.holds Try.pinned (OpenSpec.ofChange deltaDiffsSpec)

/-- ITS FALSE NEIGHBOUR: 'it returns false'. Refute it at one input. -/
def deltaDiffsWrong : ChangeSpec := { name := "deltaDiffs", fn := fun _ => fun
  | [d1, d2, d3] => { results := [.lit (.bool false)], args := [d1, d2, d3] }
  | _ => none }
def DeltaDiffsWrongFalsely : Prop := deltaDiffsRow.holds Try.pinned (OpenSpec.ofChange deltaDiffsWrong)

/- THE SECOND FORM. 'bulk': how many values and letters a reading holds, each counted each time it is reached (what is shared counts as often as it is met; a slice's spare places count too). A statement '..UptoSaid' is the law's where the arguments, and the package variables that the reading takes, are together of bulk at most 1048576: NARROWER than '..Said'. Prove '..Said' where nothing that the law and all that it calls make is longer than what came in: it says more and counts as full. Else prove '..UptoSaid'. A law counts once. -/
mutual
def uptoBulk {H : Type} : DataW H → Nat
  | .lit (.string bytes) => bytes.length + 1
  | .lit _ => 1
  | .nil => 1
  | .ptr d => uptoBulk d + 1
  | .slice elems spare => uptoBulkAll elems + uptoBulkAll spare + 1
  | .agg parts => uptoBulkAll parts + 1
  | .iface _ d => uptoBulk d + 1
  | .map entries => uptoBulkEntries entries + 1
  | .held _ => 1
def uptoBulkAll {H : Type} : List (DataW H) → Nat
  | [] => 0
  | d :: r => uptoBulk d + uptoBulkAll r
def uptoBulkEntries {H : Type} : List (Lit × DataW H) → Nat
  | [] => 0
  | x :: r => uptoBulkEntry x + uptoBulkEntries r
def uptoBulkEntry {H : Type} : Lit × DataW H → Nat
  | (.string bytes, d) => bytes.length + uptoBulk d + 1
  | (_, d) => uptoBulk d + 1
 end
def uptoSmall : (H : Type) → List (DataW H) → Bool := fun _ ds => decide (uptoBulkAll ds ≤ 1048576)
def OpenSpec.upto (s : _root_.Go.ChangeSpec) : _root_.Go.OpenSpec := { _root_.Go.OpenSpec.ofChange s with cond := some uptoSmall }

/-- 'pilasterlaw11.RleRuns', WHERE WHAT IT READS IS OF BULK AT MOST 1048576: true; the input reads as it did. -/
def rleRunsUptoRow : OpenClaim := { program := "ytdhjcdkpbbbicaa", sum := "086f71fd9716dbc4adf4d891eb68c97ad90ad73aa4f6b5c90d4b4650a73b1073", func := "pilaster/pilasterlaw11.RleRuns", spec := "rleRuns", unfollowed := true, recurses := true, apart := false, narrowed := true }
def RleRunsUptoSaid : Prop := rleRunsUptoRow.holds Try.pinned (OpenSpec.upto rleRunsSpec)

/-- 'pilasterlaw11.RlePuts', WHERE WHAT IT READS IS OF BULK AT MOST 1048576: true; the input reads as it did. -/
def rlePutsUptoRow : OpenClaim := { program := "ytdhjcdkpbbbicaa", sum := "086f71fd9716dbc4adf4d891eb68c97ad90ad73aa4f6b5c90d4b4650a73b1073", func := "pilaster/pilasterlaw11.RlePuts", spec := "rlePuts", unfollowed := true, recurses := true, apart := false, narrowed := true }
def RlePutsUptoSaid : Prop := rlePutsUptoRow.holds Try.pinned (OpenSpec.upto rlePutsSpec)

/-- 'pilasterlaw11.RleShort', WHERE WHAT IT READS IS OF BULK AT MOST 1048576: true; the input reads as it did. -/
def rleShortUptoRow : OpenClaim := { program := "ytdhjcdkpbbbicaa", sum := "086f71fd9716dbc4adf4d891eb68c97ad90ad73aa4f6b5c90d4b4650a73b1073", func := "pilaster/pilasterlaw11.RleShort", spec := "rleShort", unfollowed := true, recurses := true, apart := false, narrowed := true }
def RleShortUptoSaid : Prop := rleShortUptoRow.holds Try.pinned (OpenSpec.upto rleShortSpec)

/-- 'pilasterlaw11.RleSame', WHERE WHAT IT READS IS OF BULK AT MOST 1048576: true; the input reads as it did. -/
def rleSameUptoRow : OpenClaim := { program := "ytdhjcdkpbbbicaa", sum := "086f71fd9716dbc4adf4d891eb68c97ad90ad73aa4f6b5c90d4b4650a73b1073", func := "pilaster/pilasterlaw11.RleSame", spec := "rleSame", unfollowed := true, recurses := true, apart := false, narrowed := true }
def RleSameUptoSaid : Prop := rleSameUptoRow.holds Try.pinned (OpenSpec.upto rleSameSpec)

/-- 'pilasterlaw11.RleTakes', WHERE WHAT IT READS IS OF BULK AT MOST 1048576: true; the input reads as it did. -/
def rleTakesUptoRow : OpenClaim := { program := "ytdhjcdkpbbbicaa", sum := "086f71fd9716dbc4adf4d891eb68c97ad90ad73aa4f6b5c90d4b4650a73b1073", func := "pilaster/pilasterlaw11.RleTakes", spec := "rleTakes", unfollowed := true, recurses := true, apart := false, narrowed := true }
def RleTakesUptoSaid : Prop := rleTakesUptoRow.holds Try.pinned (OpenSpec.upto rleTakesSpec)

/-- 'pilasterlaw11.RleBack', WHERE WHAT IT READS IS OF BULK AT MOST 1048576: true; the input reads as it did. -/
def rleBackUptoRow : OpenClaim := { program := "ytdhjcdkpbbbicaa", sum := "086f71fd9716dbc4adf4d891eb68c97ad90ad73aa4f6b5c90d4b4650a73b1073", func := "pilaster/pilasterlaw11.RleBack", spec := "rleBack", unfollowed := true, recurses := true, apart := false, narrowed := true }
def RleBackUptoSaid : Prop := rleBackUptoRow.holds Try.pinned (OpenSpec.upto rleBackSpec)

/-- 'pilasterlaw08.DirectPlain', WHERE WHAT IT READS IS OF BULK AT MOST 1048576: true; the input reads as it did. -/
def directPlainUptoRow : OpenClaim := { program := "ytdhjcdkpbbbicaa", sum := "086f71fd9716dbc4adf4d891eb68c97ad90ad73aa4f6b5c90d4b4650a73b1073", func := "pilaster/pilasterlaw08.DirectPlain", spec := "directPlain", unfollowed := true, recurses := true, apart := false, narrowed := true }
def DirectPlainUptoSaid : Prop := directPlainUptoRow.holds Try.pinned (OpenSpec.upto directPlainSpec)

/-- 'pilasterlaw09.DeltaDiffs', WHERE WHAT IT READS IS OF BULK AT MOST 1048576: true; the input reads as it did. -/
def deltaDiffsUptoRow : OpenClaim := { program := "ytdhjcdkpbbbicaa", sum := "086f71fd9716dbc4adf4d891eb68c97ad90ad73aa4f6b5c90d4b4650a73b1073", func := "pilaster/pilasterlaw09.DeltaDiffs", spec := "deltaDiffs", unfollowed := true, recurses := true, apart := false, narrowed := true }
def DeltaDiffsUptoSaid : Prop := deltaDiffsUptoRow.holds Try.pinned (OpenSpec.upto deltaDiffsSpec)

end Rows
end Go.Proofs.Ytdhjcdkpbbbicaa

/-
  No cell of these rows narrows 'for every input' (looked for: loops, veiled, ifaces, maps, wideKeys, modest, calm, conditions, laid).
  DERIVED. THE GIVEN ROWS OF THIS SEAT. 3 by the template 'for every input the law returns true; each argument reads behind the call as it read before'; 0 by the template 'total and deterministic' (their statements: YtmejoococajikaaGreatTotals.lean).
  GIVEN WITH THE SEED: the statements are not yours to turn. If you find one false, say at which input.
  Laid BY PROGRAM, IN A SANDBOX (cutbox-rows.mjs): the forced cells as the released guide's own fill.sh prints them over the translation d2af55e83c029a1f… (all of the seat's roots in one cut). By AI agents, Wed Nov 11 2026. No macro, syntax, notation, axiom, sorry.
-/
import Derived.Test.YtmejoococajikaaGreatChecked
import GoSem.Claim
import GoSem.ClaimJoined
import GoSem.ClaimMapViews
import Derived.JoinedTies
import Derived.KernelRfl
namespace Go.Proofs.YtmejoococajikaaGreat
/- THE CELL 'sum', in the pinned program and in every row, IS THE sha256 OF THE DUMP (.gsa) THAT YtmejoococajikaaGreatProg.lean LOADS. Nothing in Lean hashes anything: it is a label: what it is worth is what the hold of that sum in a sandbox is worth. -/
noncomputable def Tryz.pinned : Pinned := { name := "ytmejoococajikaagreat", sum := "d2af55e83c029a1f08b75e547dba4de843bcafcdd6c4c3edfc1b85eceb03d758", checked := Tryz.checked }
namespace Rows
def none {H : Type} : Left H := { results := [], args := [] }

/-- 'pilasterlaw15.TextsPuts': WHATEVER THE INPUT: true; the input reads as it did. -/
def textsPutsSpec : ChangeSpec := { name := "textsPuts", fn := fun _ => fun
  | [d] => { results := [.lit (.bool true)], args := [d] }
  | _ => none }
def textsPutsRow : OpenClaim := { program := "ytmejoococajikaagreat", sum := "d2af55e83c029a1f08b75e547dba4de843bcafcdd6c4c3edfc1b85eceb03d758", func := "pilaster/pilasterlaw15.TextsPuts", spec := "textsPuts", inPlace := ["internal/abi.NoEscape", "internal/bytealg.MakeNoZero"], unfollowed := true, recurses := true, apart := false }
def TextsPutsSaid : Prop := textsPutsRow.holds Tryz.pinned (OpenSpec.ofChange textsPutsSpec)

/-- ITS FALSE NEIGHBOUR: 'it returns false'. Refute it at one input. -/
def textsPutsWrong : ChangeSpec := { name := "textsPuts", fn := fun _ => fun
  | [d] => { results := [.lit (.bool false)], args := [d] }
  | _ => none }
def TextsPutsWrongFalsely : Prop := textsPutsRow.holds Tryz.pinned (OpenSpec.ofChange textsPutsWrong)

/-- 'pilasterlaw15.TextsTakes': WHATEVER THE INPUT: true; the input reads as it did. -/
def textsTakesSpec : ChangeSpec := { name := "textsTakes", fn := fun _ => fun
  | [d] => { results := [.lit (.bool true)], args := [d] }
  | _ => none }
def textsTakesRow : OpenClaim := { program := "ytmejoococajikaagreat", sum := "d2af55e83c029a1f08b75e547dba4de843bcafcdd6c4c3edfc1b85eceb03d758", func := "pilaster/pilasterlaw15.TextsTakes", spec := "textsTakes", inPlace := ["internal/abi.NoEscape", "internal/bytealg.MakeNoZero"], unfollowed := true, recurses := true, apart := false }
def TextsTakesSaid : Prop := textsTakesRow.holds Tryz.pinned (OpenSpec.ofChange textsTakesSpec)

/-- ITS FALSE NEIGHBOUR: 'it returns false'. Refute it at one input. -/
def textsTakesWrong : ChangeSpec := { name := "textsTakes", fn := fun _ => fun
  | [d] => { results := [.lit (.bool false)], args := [d] }
  | _ => none }
def TextsTakesWrongFalsely : Prop := textsTakesRow.holds Tryz.pinned (OpenSpec.ofChange textsTakesWrong)

/-- 'pilasterlaw15.TextsBack': WHATEVER THE INPUT: true; the input reads as it did. -/
def textsBackSpec : ChangeSpec := { name := "textsBack", fn := fun _ => fun
  | [d] => { results := [.lit (.bool true)], args := [d] }
  | _ => none }
def textsBackRow : OpenClaim := { program := "ytmejoococajikaagreat", sum := "d2af55e83c029a1f08b75e547dba4de843bcafcdd6c4c3edfc1b85eceb03d758", func := "pilaster/pilasterlaw15.TextsBack", spec := "textsBack", inPlace := ["internal/abi.NoEscape", "internal/bytealg.MakeNoZero"], unfollowed := true, recurses := true, apart := false }
def TextsBackSaid : Prop := textsBackRow.holds Tryz.pinned (OpenSpec.ofChange textsBackSpec)

/-- ITS FALSE NEIGHBOUR: 'it returns false'. Refute it at one input. -/
def textsBackWrong : ChangeSpec := { name := "textsBack", fn := fun _ => fun
  | [d] => { results := [.lit (.bool false)], args := [d] }
  | _ => none }
def TextsBackWrongFalsely : Prop := textsBackRow.holds Tryz.pinned (OpenSpec.ofChange textsBackWrong)

/- THE SECOND FORM. 'bulk': how many values and letters a reading holds, each counted each time it is reached (what is shared counts as often as it is met; a slice's spare places count too). A statement '..UptoSaid' is the law's where the arguments, and the package variables that the reading takes, are together of bulk at most 1048576: NARROWER than '..Said'. Prove '..Said' where nothing that the law and all that it calls make is longer than what came in: it says more and counts as full. Else prove '..UptoSaid'. A law counts once. -/
mutual
def uptoBulk {H : Type} : DataW H → Nat
  | .lit (.string bytes) => bytes.length + 1
  | .lit _ => 1
  | .nil => 1
  | .ptr d => uptoBulk d + 1
  | .slice elems spare => uptoBulkAll elems + uptoBulkAll spare + 1
  | .agg parts => uptoBulkAll parts + 1
  | .iface _ d => uptoBulk d + 1
  | .map entries => uptoBulkEntries entries + 1
  | .held _ => 1
def uptoBulkAll {H : Type} : List (DataW H) → Nat
  | [] => 0
  | d :: r => uptoBulk d + uptoBulkAll r
def uptoBulkEntries {H : Type} : List (Lit × DataW H) → Nat
  | [] => 0
  | x :: r => uptoBulkEntry x + uptoBulkEntries r
def uptoBulkEntry {H : Type} : Lit × DataW H → Nat
  | (.string bytes, d) => bytes.length + uptoBulk d + 1
  | (_, d) => uptoBulk d + 1
 end
def uptoSmall : (H : Type) → List (DataW H) → Bool := fun _ ds => decide (uptoBulkAll ds ≤ 1048576)
def OpenSpec.upto (s : _root_.Go.ChangeSpec) : _root_.Go.OpenSpec := { _root_.Go.OpenSpec.ofChange s with cond := some uptoSmall }

/-- 'pilasterlaw15.TextsPuts', WHERE WHAT IT READS IS OF BULK AT MOST 1048576: true; the input reads as it did. -/
def textsPutsUptoRow : OpenClaim := { program := "ytmejoococajikaagreat", sum := "d2af55e83c029a1f08b75e547dba4de843bcafcdd6c4c3edfc1b85eceb03d758", func := "pilaster/pilasterlaw15.TextsPuts", spec := "textsPuts", inPlace := ["internal/abi.NoEscape", "internal/bytealg.MakeNoZero"], unfollowed := true, recurses := true, apart := false, narrowed := true }
def TextsPutsUptoSaid : Prop := textsPutsUptoRow.holds Tryz.pinned (OpenSpec.upto textsPutsSpec)

/-- 'pilasterlaw15.TextsTakes', WHERE WHAT IT READS IS OF BULK AT MOST 1048576: true; the input reads as it did. -/
def textsTakesUptoRow : OpenClaim := { program := "ytmejoococajikaagreat", sum := "d2af55e83c029a1f08b75e547dba4de843bcafcdd6c4c3edfc1b85eceb03d758", func := "pilaster/pilasterlaw15.TextsTakes", spec := "textsTakes", inPlace := ["internal/abi.NoEscape", "internal/bytealg.MakeNoZero"], unfollowed := true, recurses := true, apart := false, narrowed := true }
def TextsTakesUptoSaid : Prop := textsTakesUptoRow.holds Tryz.pinned (OpenSpec.upto textsTakesSpec)

/-- 'pilasterlaw15.TextsBack', WHERE WHAT IT READS IS OF BULK AT MOST 1048576: true; the input reads as it did. -/
def textsBackUptoRow : OpenClaim := { program := "ytmejoococajikaagreat", sum := "d2af55e83c029a1f08b75e547dba4de843bcafcdd6c4c3edfc1b85eceb03d758", func := "pilaster/pilasterlaw15.TextsBack", spec := "textsBack", inPlace := ["internal/abi.NoEscape", "internal/bytealg.MakeNoZero"], unfollowed := true, recurses := true, apart := false, narrowed := true }
def TextsBackUptoSaid : Prop := textsBackUptoRow.holds Tryz.pinned (OpenSpec.upto textsBackSpec)

end Rows
end Go.Proofs.YtmejoococajikaaGreat

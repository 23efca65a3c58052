/-
  NARROWER THAN 'FOR EVERY INPUT', by the rows' own cells (each row's printed sentence says how): DiskSafe: laid · DiskMoves: laid · DiskQuota: laid · DiskSteps: laid · DiskPlays: laid.
  DERIVED. THE GIVEN ROWS OF THIS SEAT. 5 by the template 'for every input the law returns true; each argument reads behind the call as it read before'; 0 by the template 'total and deterministic' (their statements: YtekdcnlbdgikoaaDoorTotals.lean).
  GIVEN WITH THE SEED: the statements are not yours to turn. If you find one false, say at which input.
  Laid BY PROGRAM, IN A SANDBOX (cutbox-rows.mjs): the forced cells as the released guide's own fill.sh prints them over the translation cf6619d0fcd2c01f… (all of the seat's roots in one cut). By AI agents, Wed Nov 11 2026. No macro, syntax, notation, axiom, sorry.
-/
import Derived.Test.YtekdcnlbdgikoaaDoorChecked
import GoSem.PinnedTables
import GoSem.Claim
import GoSem.ClaimJoined
import GoSem.ClaimMapViews
import Derived.JoinedTies
import Derived.KernelRfl
namespace Go.Proofs.YtekdcnlbdgikoaaDoor
/- THE CELL 'sum', in the pinned program and in every row, IS THE sha256 OF THE DUMP (.gsa) THAT YtekdcnlbdgikoaaDoorProg.lean LOADS. Nothing in Lean hashes anything: it is a label: what it is worth is what the hold of that sum in a sandbox is worth. -/
noncomputable def Tryd.pinned : Pinned := { name := "ytekdcnlbdgikoaadoor", sum := "cf6619d0fcd2c01f92a0c60a9b6d862c689b6cd188b9505549966661e7841f7a", checked := Tryd.checked }
namespace Rows
def none {H : Type} : Left H := { results := [], args := [] }

/- WHAT THE LISTED PACKAGE-LEVEL VARIABLES READ AS WHEN THE CALL BEGINS. Each datum BY PROGRAM (the guide's laid-datum.mjs) off the statement by which the dump's own 'gosem.cut.vars' lays the variable. In a bare row this is a premise. The card (YtekdcnlbdgikoaaDoorCards.lean) ties it to the program's text. -/
def laid_unicode_utf8_acceptRanges {H : Type} : DataW H := .agg [.agg [.lit (.int .u8 128), .lit (.int .u8 191)], .agg [.lit (.int .u8 160), .lit (.int .u8 191)], .agg [.lit (.int .u8 128), .lit (.int .u8 159)], .agg [.lit (.int .u8 144), .lit (.int .u8 191)], .agg [.lit (.int .u8 128), .lit (.int .u8 143)], .agg [.lit (.int .u8 0), .lit (.int .u8 0)], .agg [.lit (.int .u8 0), .lit (.int .u8 0)], .agg [.lit (.int .u8 0), .lit (.int .u8 0)], .agg [.lit (.int .u8 0), .lit (.int .u8 0)], .agg [.lit (.int .u8 0), .lit (.int .u8 0)], .agg [.lit (.int .u8 0), .lit (.int .u8 0)], .agg [.lit (.int .u8 0), .lit (.int .u8 0)], .agg [.lit (.int .u8 0), .lit (.int .u8 0)], .agg [.lit (.int .u8 0), .lit (.int .u8 0)], .agg [.lit (.int .u8 0), .lit (.int .u8 0)], .agg [.lit (.int .u8 0), .lit (.int .u8 0)]]
/-- One of Go's own tables, pinned by name: the form's constant. -/
def laid_unicode_utf8_first : DataW Unit := Go.Pinned.utf8First

/-- 'pilasterlaw23.DiskSafe': WHATEVER THE INPUT: true; the input reads as it did. -/
def diskSafeSpec : ChangeSpec := { name := "diskSafe", fn := fun _ => fun
  | [d1, d2, d3] => { results := [.lit (.bool true)], args := [d1, d2, d3] }
  | _ => none }
def diskSafeRow : OpenClaim := { program := "ytekdcnlbdgikoaadoor", sum := "cf6619d0fcd2c01f92a0c60a9b6d862c689b6cd188b9505549966661e7841f7a", func := "pilaster/pilasterlaw23.DiskSafe", spec := "diskSafe", inPlace := ["internal/bytealg.CountString", "internal/bytealg.IndexByteString", "internal/bytealg.IndexString"], unfollowed := true, recurses := true, named := ["unicode/utf8.first", "unicode/utf8.acceptRanges", "internal/bytealg.MaxLen"], apart := false, laid := [("unicode/utf8.acceptRanges", laid_unicode_utf8_acceptRanges), ("unicode/utf8.first", laid_unicode_utf8_first)] }
def DiskSafeSaid : Prop := diskSafeRow.holds Tryd.pinned (OpenSpec.ofChange diskSafeSpec)

/-- ITS FALSE NEIGHBOUR: 'it returns false'. Refute it at one input. -/
def diskSafeWrong : ChangeSpec := { name := "diskSafe", fn := fun _ => fun
  | [d1, d2, d3] => { results := [.lit (.bool false)], args := [d1, d2, d3] }
  | _ => none }
def DiskSafeWrongFalsely : Prop := diskSafeRow.holds Tryd.pinned (OpenSpec.ofChange diskSafeWrong)

/-- 'pilasterlaw23.DiskMoves': WHATEVER THE INPUT: true; the input reads as it did. -/
def diskMovesSpec : ChangeSpec := { name := "diskMoves", fn := fun _ => fun
  | [d] => { results := [.lit (.bool true)], args := [d] }
  | _ => none }
def diskMovesRow : OpenClaim := { program := "ytekdcnlbdgikoaadoor", sum := "cf6619d0fcd2c01f92a0c60a9b6d862c689b6cd188b9505549966661e7841f7a", func := "pilaster/pilasterlaw23.DiskMoves", spec := "diskMoves", inPlace := ["internal/bytealg.CountString", "internal/bytealg.IndexByteString", "internal/bytealg.IndexString"], unfollowed := true, recurses := true, named := ["unicode/utf8.first", "unicode/utf8.acceptRanges", "internal/bytealg.MaxLen"], apart := false, laid := [("unicode/utf8.acceptRanges", laid_unicode_utf8_acceptRanges), ("unicode/utf8.first", laid_unicode_utf8_first)] }
def DiskMovesSaid : Prop := diskMovesRow.holds Tryd.pinned (OpenSpec.ofChange diskMovesSpec)

/-- ITS FALSE NEIGHBOUR: 'it returns false'. Refute it at one input. -/
def diskMovesWrong : ChangeSpec := { name := "diskMoves", fn := fun _ => fun
  | [d] => { results := [.lit (.bool false)], args := [d] }
  | _ => none }
def DiskMovesWrongFalsely : Prop := diskMovesRow.holds Tryd.pinned (OpenSpec.ofChange diskMovesWrong)

/-- 'pilasterlaw23.DiskQuota': WHATEVER THE INPUT: true; the input reads as it did. -/
def diskQuotaSpec : ChangeSpec := { name := "diskQuota", fn := fun _ => fun
  | [d1, d2] => { results := [.lit (.bool true)], args := [d1, d2] }
  | _ => none }
def diskQuotaRow : OpenClaim := { program := "ytekdcnlbdgikoaadoor", sum := "cf6619d0fcd2c01f92a0c60a9b6d862c689b6cd188b9505549966661e7841f7a", func := "pilaster/pilasterlaw23.DiskQuota", spec := "diskQuota", inPlace := ["internal/bytealg.CountString", "internal/bytealg.IndexByteString", "internal/bytealg.IndexString"], unfollowed := true, recurses := true, named := ["unicode/utf8.first", "unicode/utf8.acceptRanges", "internal/bytealg.MaxLen"], apart := false, laid := [("unicode/utf8.acceptRanges", laid_unicode_utf8_acceptRanges), ("unicode/utf8.first", laid_unicode_utf8_first)] }
def DiskQuotaSaid : Prop := diskQuotaRow.holds Tryd.pinned (OpenSpec.ofChange diskQuotaSpec)

/-- ITS FALSE NEIGHBOUR: 'it returns false'. Refute it at one input. -/
def diskQuotaWrong : ChangeSpec := { name := "diskQuota", fn := fun _ => fun
  | [d1, d2] => { results := [.lit (.bool false)], args := [d1, d2] }
  | _ => none }
def DiskQuotaWrongFalsely : Prop := diskQuotaRow.holds Tryd.pinned (OpenSpec.ofChange diskQuotaWrong)

/-- 'pilasterlaw23.DiskSteps': WHATEVER THE INPUT: true; the input reads as it did. -/
def diskStepsSpec : ChangeSpec := { name := "diskSteps", fn := fun _ => fun
  | [d1, d2, d3] => { results := [.lit (.bool true)], args := [d1, d2, d3] }
  | _ => none }
def diskStepsRow : OpenClaim := { program := "ytekdcnlbdgikoaadoor", sum := "cf6619d0fcd2c01f92a0c60a9b6d862c689b6cd188b9505549966661e7841f7a", func := "pilaster/pilasterlaw23.DiskSteps", spec := "diskSteps", inPlace := ["internal/bytealg.CountString", "internal/bytealg.IndexByteString", "internal/bytealg.IndexString"], unfollowed := true, recurses := true, named := ["unicode/utf8.first", "unicode/utf8.acceptRanges", "internal/bytealg.MaxLen"], apart := false, laid := [("unicode/utf8.acceptRanges", laid_unicode_utf8_acceptRanges), ("unicode/utf8.first", laid_unicode_utf8_first)] }
def DiskStepsSaid : Prop := diskStepsRow.holds Tryd.pinned (OpenSpec.ofChange diskStepsSpec)

/-- ITS FALSE NEIGHBOUR: 'it returns false'. Refute it at one input. -/
def diskStepsWrong : ChangeSpec := { name := "diskSteps", fn := fun _ => fun
  | [d1, d2, d3] => { results := [.lit (.bool false)], args := [d1, d2, d3] }
  | _ => none }
def DiskStepsWrongFalsely : Prop := diskStepsRow.holds Tryd.pinned (OpenSpec.ofChange diskStepsWrong)

/-- 'pilasterlaw23.DiskPlays': WHATEVER THE INPUT: true; the input reads as it did. -/
def diskPlaysSpec : ChangeSpec := { name := "diskPlays", fn := fun _ => fun
  | [d1, d2, d3] => { results := [.lit (.bool true)], args := [d1, d2, d3] }
  | _ => none }
def diskPlaysRow : OpenClaim := { program := "ytekdcnlbdgikoaadoor", sum := "cf6619d0fcd2c01f92a0c60a9b6d862c689b6cd188b9505549966661e7841f7a", func := "pilaster/pilasterlaw23.DiskPlays", spec := "diskPlays", inPlace := ["internal/bytealg.CountString", "internal/bytealg.IndexByteString", "internal/bytealg.IndexString", "maps.clone"], unfollowed := true, recurses := true, named := ["unicode/utf8.first", "unicode/utf8.acceptRanges", "internal/bytealg.MaxLen"], apart := false, laid := [("unicode/utf8.acceptRanges", laid_unicode_utf8_acceptRanges), ("unicode/utf8.first", laid_unicode_utf8_first)] }
def DiskPlaysSaid : Prop := diskPlaysRow.holds Tryd.pinned (OpenSpec.ofChange diskPlaysSpec)

/-- ITS FALSE NEIGHBOUR: 'it returns false'. Refute it at one input. -/
def diskPlaysWrong : ChangeSpec := { name := "diskPlays", fn := fun _ => fun
  | [d1, d2, d3] => { results := [.lit (.bool false)], args := [d1, d2, d3] }
  | _ => none }
def DiskPlaysWrongFalsely : Prop := diskPlaysRow.holds Tryd.pinned (OpenSpec.ofChange diskPlaysWrong)

/- THE SECOND FORM. 'bulk': how many values and letters a reading holds, each counted each time it is reached (what is shared counts as often as it is met; a slice's spare places count too). A statement '..UptoSaid' is the law's where the arguments, and the package variables that the reading takes, are together of bulk at most 1048576: NARROWER than '..Said'. Prove '..Said' where nothing that the law and all that it calls make is longer than what came in: it says more and counts as full. Else prove '..UptoSaid'. A law counts once. -/
mutual
def uptoBulk {H : Type} : DataW H → Nat
  | .lit (.string bytes) => bytes.length + 1
  | .lit _ => 1
  | .nil => 1
  | .ptr d => uptoBulk d + 1
  | .slice elems spare => uptoBulkAll elems + uptoBulkAll spare + 1
  | .agg parts => uptoBulkAll parts + 1
  | .iface _ d => uptoBulk d + 1
  | .map entries => uptoBulkEntries entries + 1
  | .held _ => 1
def uptoBulkAll {H : Type} : List (DataW H) → Nat
  | [] => 0
  | d :: r => uptoBulk d + uptoBulkAll r
def uptoBulkEntries {H : Type} : List (Lit × DataW H) → Nat
  | [] => 0
  | x :: r => uptoBulkEntry x + uptoBulkEntries r
def uptoBulkEntry {H : Type} : Lit × DataW H → Nat
  | (.string bytes, d) => bytes.length + uptoBulk d + 1
  | (_, d) => uptoBulk d + 1
 end
def uptoSmall : (H : Type) → List (DataW H) → Bool := fun _ ds => decide (uptoBulkAll ds ≤ 1048576)
def OpenSpec.upto (s : _root_.Go.ChangeSpec) : _root_.Go.OpenSpec := { _root_.Go.OpenSpec.ofChange s with cond := some uptoSmall }

/-- 'pilasterlaw23.DiskSafe', WHERE WHAT IT READS IS OF BULK AT MOST 1048576: true; the input reads as it did. -/
def diskSafeUptoRow : OpenClaim := { program := "ytekdcnlbdgikoaadoor", sum := "cf6619d0fcd2c01f92a0c60a9b6d862c689b6cd188b9505549966661e7841f7a", func := "pilaster/pilasterlaw23.DiskSafe", spec := "diskSafe", inPlace := ["internal/bytealg.CountString", "internal/bytealg.IndexByteString", "internal/bytealg.IndexString"], unfollowed := true, recurses := true, named := ["unicode/utf8.first", "unicode/utf8.acceptRanges", "internal/bytealg.MaxLen"], apart := false, laid := [("unicode/utf8.acceptRanges", laid_unicode_utf8_acceptRanges), ("unicode/utf8.first", laid_unicode_utf8_first)], narrowed := true }
def DiskSafeUptoSaid : Prop := diskSafeUptoRow.holds Tryd.pinned (OpenSpec.upto diskSafeSpec)

/-- 'pilasterlaw23.DiskMoves', WHERE WHAT IT READS IS OF BULK AT MOST 1048576: true; the input reads as it did. -/
def diskMovesUptoRow : OpenClaim := { program := "ytekdcnlbdgikoaadoor", sum := "cf6619d0fcd2c01f92a0c60a9b6d862c689b6cd188b9505549966661e7841f7a", func := "pilaster/pilasterlaw23.DiskMoves", spec := "diskMoves", inPlace := ["internal/bytealg.CountString", "internal/bytealg.IndexByteString", "internal/bytealg.IndexString"], unfollowed := true, recurses := true, named := ["unicode/utf8.first", "unicode/utf8.acceptRanges", "internal/bytealg.MaxLen"], apart := false, laid := [("unicode/utf8.acceptRanges", laid_unicode_utf8_acceptRanges), ("unicode/utf8.first", laid_unicode_utf8_first)], narrowed := true }
def DiskMovesUptoSaid : Prop := diskMovesUptoRow.holds Tryd.pinned (OpenSpec.upto diskMovesSpec)

/-- 'pilasterlaw23.DiskQuota', WHERE WHAT IT READS IS OF BULK AT MOST 1048576: true; the input reads as it did. -/
def diskQuotaUptoRow : OpenClaim := { program := "ytekdcnlbdgikoaadoor", sum := "cf6619d0fcd2c01f92a0c60a9b6d862c689b6cd188b9505549966661e7841f7a", func := "pilaster/pilasterlaw23.DiskQuota", spec := "diskQuota", inPlace := ["internal/bytealg.CountString", "internal/bytealg.IndexByteString", "internal/bytealg.IndexString"], unfollowed := true, recurses := true, named := ["unicode/utf8.first", "unicode/utf8.acceptRanges", "internal/bytealg.MaxLen"], apart := false, laid := [("unicode/utf8.acceptRanges", laid_unicode_utf8_acceptRanges), ("unicode/utf8.first", laid_unicode_utf8_first)], narrowed := true }
def DiskQuotaUptoSaid : Prop := diskQuotaUptoRow.holds Tryd.pinned (OpenSpec.upto diskQuotaSpec)

/-- 'pilasterlaw23.DiskSteps', WHERE WHAT IT READS IS OF BULK AT MOST 1048576: true; the input reads as it did. -/
def diskStepsUptoRow : OpenClaim := { program := "ytekdcnlbdgikoaadoor", sum := "cf6619d0fcd2c01f92a0c60a9b6d862c689b6cd188b9505549966661e7841f7a", func := "pilaster/pilasterlaw23.DiskSteps", spec := "diskSteps", inPlace := ["internal/bytealg.CountString", "internal/bytealg.IndexByteString", "internal/bytealg.IndexString"], unfollowed := true, recurses := true, named := ["unicode/utf8.first", "unicode/utf8.acceptRanges", "internal/bytealg.MaxLen"], apart := false, laid := [("unicode/utf8.acceptRanges", laid_unicode_utf8_acceptRanges), ("unicode/utf8.first", laid_unicode_utf8_first)], narrowed := true }
def DiskStepsUptoSaid : Prop := diskStepsUptoRow.holds Tryd.pinned (OpenSpec.upto diskStepsSpec)

/-- 'pilasterlaw23.DiskPlays', WHERE WHAT IT READS IS OF BULK AT MOST 1048576: true; the input reads as it did. -/
def diskPlaysUptoRow : OpenClaim := { program := "ytekdcnlbdgikoaadoor", sum := "cf6619d0fcd2c01f92a0c60a9b6d862c689b6cd188b9505549966661e7841f7a", func := "pilaster/pilasterlaw23.DiskPlays", spec := "diskPlays", inPlace := ["internal/bytealg.CountString", "internal/bytealg.IndexByteString", "internal/bytealg.IndexString", "maps.clone"], unfollowed := true, recurses := true, named := ["unicode/utf8.first", "unicode/utf8.acceptRanges", "internal/bytealg.MaxLen"], apart := false, laid := [("unicode/utf8.acceptRanges", laid_unicode_utf8_acceptRanges), ("unicode/utf8.first", laid_unicode_utf8_first)], narrowed := true }
def DiskPlaysUptoSaid : Prop := diskPlaysUptoRow.holds Tryd.pinned (OpenSpec.upto diskPlaysSpec)

end Rows
end Go.Proofs.YtekdcnlbdgikoaaDoor

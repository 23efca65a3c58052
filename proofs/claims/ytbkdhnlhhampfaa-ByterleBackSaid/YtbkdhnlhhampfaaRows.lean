/-
  No cell of these rows narrows 'for every input' (looked for: loops, veiled, ifaces, maps, wideKeys, modest, calm, conditions, laid).
  DERIVED. THE GIVEN ROWS OF THIS SEAT. 15 by the template 'for every input the law returns true; each argument reads behind the call as it read before'; 0 by the template 'total and deterministic' (their statements: YtbkdhnlhhampfaaTotals.lean).
  GIVEN WITH THE SEED: the statements are not yours to turn. If you find one false, say at which input.
  Laid BY PROGRAM, IN A SANDBOX (cutbox-rows.mjs): the forced cells as the released guide's own fill.sh prints them over the translation 5e0497aaf613ed89… (all of the seat's roots in one cut). By AI agents, Wed Nov 11 2026. No macro, syntax, notation, axiom, sorry.
-/
import Derived.Test.YtbkdhnlhhampfaaChecked
import GoSem.Claim
import GoSem.ClaimJoined
import GoSem.ClaimMapViews
import Derived.JoinedTies
import Derived.KernelRfl
namespace Go.Proofs.Ytbkdhnlhhampfaa
/- THE CELL 'sum', in the pinned program and in every row, IS THE sha256 OF THE DUMP (.gsa) THAT YtbkdhnlhhampfaaProg.lean LOADS. Nothing in Lean hashes anything: it is a label: what it is worth is what the hold of that sum in a sandbox is worth. -/
noncomputable def Try.pinned : Pinned := { name := "ytbkdhnlhhampfaa", sum := "5e0497aaf613ed8902e243fa16319f5d95eee575033c5f7318e9877532d5f7be", checked := Try.checked }
namespace Rows
def none {H : Type} : Left H := { results := [], args := [] }

/-- 'pilasterlaw07.RepeatPuts': WHATEVER THE INPUT: true; the input reads as it did. -/
def repeatPutsSpec : ChangeSpec := { name := "repeatPuts", fn := fun _ => fun
  | [d1, d2, d3] => { results := [.lit (.bool true)], args := [d1, d2, d3] }
  | _ => none }
def repeatPutsRow : OpenClaim := { program := "ytbkdhnlhhampfaa", sum := "5e0497aaf613ed8902e243fa16319f5d95eee575033c5f7318e9877532d5f7be", func := "pilaster/pilasterlaw07.RepeatPuts", spec := "repeatPuts", apart := false }
def RepeatPutsSaid : Prop := repeatPutsRow.holds Try.pinned (OpenSpec.ofChange repeatPutsSpec)

/-- ITS FALSE NEIGHBOUR: 'it returns false'. Refute it at one input. -/
def repeatPutsWrong : ChangeSpec := { name := "repeatPuts", fn := fun _ => fun
  | [d1, d2, d3] => { results := [.lit (.bool false)], args := [d1, d2, d3] }
  | _ => none }
def RepeatPutsWrongFalsely : Prop := repeatPutsRow.holds Try.pinned (OpenSpec.ofChange repeatPutsWrong)

/-- 'pilasterlaw02.WidthsCodes': WHATEVER THE INPUT: true; the input reads as it did. -/
def widthsCodesSpec : ChangeSpec := { name := "widthsCodes", fn := fun _ => fun
  | [d1, d2, d3] => { results := [.lit (.bool true)], args := [d1, d2, d3] }
  | _ => none }
def widthsCodesRow : OpenClaim := { program := "ytbkdhnlhhampfaa", sum := "5e0497aaf613ed8902e243fa16319f5d95eee575033c5f7318e9877532d5f7be", func := "pilaster/pilasterlaw02.WidthsCodes", spec := "widthsCodes", apart := false }
def WidthsCodesSaid : Prop := widthsCodesRow.holds Try.pinned (OpenSpec.ofChange widthsCodesSpec)

/-- ITS FALSE NEIGHBOUR: 'it returns false'. Refute it at one input. -/
def widthsCodesWrong : ChangeSpec := { name := "widthsCodes", fn := fun _ => fun
  | [d1, d2, d3] => { results := [.lit (.bool false)], args := [d1, d2, d3] }
  | _ => none }
def WidthsCodesWrongFalsely : Prop := widthsCodesRow.holds Try.pinned (OpenSpec.ofChange widthsCodesWrong)

/-- 'pilasterlaw02.WidthsBack': WHATEVER THE INPUT: true; the input reads as it did. -/
def widthsBackSpec : ChangeSpec := { name := "widthsBack", fn := fun _ => fun
  | [d1, d2] => { results := [.lit (.bool true)], args := [d1, d2] }
  | _ => none }
def widthsBackRow : OpenClaim := { program := "ytbkdhnlhhampfaa", sum := "5e0497aaf613ed8902e243fa16319f5d95eee575033c5f7318e9877532d5f7be", func := "pilaster/pilasterlaw02.WidthsBack", spec := "widthsBack", apart := false }
def WidthsBackSaid : Prop := widthsBackRow.holds Try.pinned (OpenSpec.ofChange widthsBackSpec)

/-- ITS FALSE NEIGHBOUR: 'it returns false'. Refute it at one input. -/
def widthsBackWrong : ChangeSpec := { name := "widthsBack", fn := fun _ => fun
  | [d1, d2] => { results := [.lit (.bool false)], args := [d1, d2] }
  | _ => none }
def WidthsBackWrongFalsely : Prop := widthsBackRow.holds Try.pinned (OpenSpec.ofChange widthsBackWrong)

/-- 'pilasterlaw02.WidthsRoom': WHATEVER THE INPUT: true; the input reads as it did. -/
def widthsRoomSpec : ChangeSpec := { name := "widthsRoom", fn := fun _ => fun
  | [d] => { results := [.lit (.bool true)], args := [d] }
  | _ => none }
def widthsRoomRow : OpenClaim := { program := "ytbkdhnlhhampfaa", sum := "5e0497aaf613ed8902e243fa16319f5d95eee575033c5f7318e9877532d5f7be", func := "pilaster/pilasterlaw02.WidthsRoom", spec := "widthsRoom", apart := false }
def WidthsRoomSaid : Prop := widthsRoomRow.holds Try.pinned (OpenSpec.ofChange widthsRoomSpec)

/-- ITS FALSE NEIGHBOUR: 'it returns false'. Refute it at one input. -/
def widthsRoomWrong : ChangeSpec := { name := "widthsRoom", fn := fun _ => fun
  | [d] => { results := [.lit (.bool false)], args := [d] }
  | _ => none }
def WidthsRoomWrongFalsely : Prop := widthsRoomRow.holds Try.pinned (OpenSpec.ofChange widthsRoomWrong)

/-- 'pilasterlaw02.WidthsBits': WHATEVER THE INPUT: true; the input reads as it did. -/
def widthsBitsSpec : ChangeSpec := { name := "widthsBits", fn := fun _ => fun
  | [d1, d2] => { results := [.lit (.bool true)], args := [d1, d2] }
  | _ => none }
def widthsBitsRow : OpenClaim := { program := "ytbkdhnlhhampfaa", sum := "5e0497aaf613ed8902e243fa16319f5d95eee575033c5f7318e9877532d5f7be", func := "pilaster/pilasterlaw02.WidthsBits", spec := "widthsBits", apart := false }
def WidthsBitsSaid : Prop := widthsBitsRow.holds Try.pinned (OpenSpec.ofChange widthsBitsSpec)

/-- ITS FALSE NEIGHBOUR: 'it returns false'. Refute it at one input. -/
def widthsBitsWrong : ChangeSpec := { name := "widthsBits", fn := fun _ => fun
  | [d1, d2] => { results := [.lit (.bool false)], args := [d1, d2] }
  | _ => none }
def WidthsBitsWrongFalsely : Prop := widthsBitsRow.holds Try.pinned (OpenSpec.ofChange widthsBitsWrong)

/-- 'pilasterlaw02.WidthsRise': WHATEVER THE INPUT: true; the input reads as it did. -/
def widthsRiseSpec : ChangeSpec := { name := "widthsRise", fn := fun _ => fun
  | [d1, d2, d3] => { results := [.lit (.bool true)], args := [d1, d2, d3] }
  | _ => none }
def widthsRiseRow : OpenClaim := { program := "ytbkdhnlhhampfaa", sum := "5e0497aaf613ed8902e243fa16319f5d95eee575033c5f7318e9877532d5f7be", func := "pilaster/pilasterlaw02.WidthsRise", spec := "widthsRise", apart := false }
def WidthsRiseSaid : Prop := widthsRiseRow.holds Try.pinned (OpenSpec.ofChange widthsRiseSpec)

/-- ITS FALSE NEIGHBOUR: 'it returns false'. Refute it at one input. -/
def widthsRiseWrong : ChangeSpec := { name := "widthsRise", fn := fun _ => fun
  | [d1, d2, d3] => { results := [.lit (.bool false)], args := [d1, d2, d3] }
  | _ => none }
def WidthsRiseWrongFalsely : Prop := widthsRiseRow.holds Try.pinned (OpenSpec.ofChange widthsRiseWrong)

/-- 'pilasterlaw07.RepeatTakes': WHATEVER THE INPUT: true; the input reads as it did. -/
def repeatTakesSpec : ChangeSpec := { name := "repeatTakes", fn := fun _ => fun
  | [d1, d2] => { results := [.lit (.bool true)], args := [d1, d2] }
  | _ => none }
def repeatTakesRow : OpenClaim := { program := "ytbkdhnlhhampfaa", sum := "5e0497aaf613ed8902e243fa16319f5d95eee575033c5f7318e9877532d5f7be", func := "pilaster/pilasterlaw07.RepeatTakes", spec := "repeatTakes", apart := false }
def RepeatTakesSaid : Prop := repeatTakesRow.holds Try.pinned (OpenSpec.ofChange repeatTakesSpec)

/-- ITS FALSE NEIGHBOUR: 'it returns false'. Refute it at one input. -/
def repeatTakesWrong : ChangeSpec := { name := "repeatTakes", fn := fun _ => fun
  | [d1, d2] => { results := [.lit (.bool false)], args := [d1, d2] }
  | _ => none }
def RepeatTakesWrongFalsely : Prop := repeatTakesRow.holds Try.pinned (OpenSpec.ofChange repeatTakesWrong)

/-- 'pilasterlaw07.RepeatBack': WHATEVER THE INPUT: true; the input reads as it did. -/
def repeatBackSpec : ChangeSpec := { name := "repeatBack", fn := fun _ => fun
  | [d1, d2, d3] => { results := [.lit (.bool true)], args := [d1, d2, d3] }
  | _ => none }
def repeatBackRow : OpenClaim := { program := "ytbkdhnlhhampfaa", sum := "5e0497aaf613ed8902e243fa16319f5d95eee575033c5f7318e9877532d5f7be", func := "pilaster/pilasterlaw07.RepeatBack", spec := "repeatBack", apart := false }
def RepeatBackSaid : Prop := repeatBackRow.holds Try.pinned (OpenSpec.ofChange repeatBackSpec)

/-- ITS FALSE NEIGHBOUR: 'it returns false'. Refute it at one input. -/
def repeatBackWrong : ChangeSpec := { name := "repeatBack", fn := fun _ => fun
  | [d1, d2, d3] => { results := [.lit (.bool false)], args := [d1, d2, d3] }
  | _ => none }
def RepeatBackWrongFalsely : Prop := repeatBackRow.holds Try.pinned (OpenSpec.ofChange repeatBackWrong)

/-- 'pilasterlaw03.BitsPacks': WHATEVER THE INPUT: true; the input reads as it did. -/
def bitsPacksSpec : ChangeSpec := { name := "bitsPacks", fn := fun _ => fun
  | [d1, d2, d3] => { results := [.lit (.bool true)], args := [d1, d2, d3] }
  | _ => none }
def bitsPacksRow : OpenClaim := { program := "ytbkdhnlhhampfaa", sum := "5e0497aaf613ed8902e243fa16319f5d95eee575033c5f7318e9877532d5f7be", func := "pilaster/pilasterlaw03.BitsPacks", spec := "bitsPacks", unfollowed := true, recurses := true, apart := false }
def BitsPacksSaid : Prop := bitsPacksRow.holds Try.pinned (OpenSpec.ofChange bitsPacksSpec)

/-- ITS FALSE NEIGHBOUR: 'it returns false'. Refute it at one input. -/
def bitsPacksWrong : ChangeSpec := { name := "bitsPacks", fn := fun _ => fun
  | [d1, d2, d3] => { results := [.lit (.bool false)], args := [d1, d2, d3] }
  | _ => none }
def BitsPacksWrongFalsely : Prop := bitsPacksRow.holds Try.pinned (OpenSpec.ofChange bitsPacksWrong)

/-- 'pilasterlaw03.BitsUnpacks': WHATEVER THE INPUT: true; the input reads as it did. -/
def bitsUnpacksSpec : ChangeSpec := { name := "bitsUnpacks", fn := fun _ => fun
  | [d1, d2, d3] => { results := [.lit (.bool true)], args := [d1, d2, d3] }
  | _ => none }
def bitsUnpacksRow : OpenClaim := { program := "ytbkdhnlhhampfaa", sum := "5e0497aaf613ed8902e243fa16319f5d95eee575033c5f7318e9877532d5f7be", func := "pilaster/pilasterlaw03.BitsUnpacks", spec := "bitsUnpacks", unfollowed := true, recurses := true, apart := false }
def BitsUnpacksSaid : Prop := bitsUnpacksRow.holds Try.pinned (OpenSpec.ofChange bitsUnpacksSpec)

/-- ITS FALSE NEIGHBOUR: 'it returns false'. Refute it at one input. -/
def bitsUnpacksWrong : ChangeSpec := { name := "bitsUnpacks", fn := fun _ => fun
  | [d1, d2, d3] => { results := [.lit (.bool false)], args := [d1, d2, d3] }
  | _ => none }
def BitsUnpacksWrongFalsely : Prop := bitsUnpacksRow.holds Try.pinned (OpenSpec.ofChange bitsUnpacksWrong)

/-- 'pilasterlaw03.BitsBack': WHATEVER THE INPUT: true; the input reads as it did. -/
def bitsBackSpec : ChangeSpec := { name := "bitsBack", fn := fun _ => fun
  | [d1, d2, d3] => { results := [.lit (.bool true)], args := [d1, d2, d3] }
  | _ => none }
def bitsBackRow : OpenClaim := { program := "ytbkdhnlhhampfaa", sum := "5e0497aaf613ed8902e243fa16319f5d95eee575033c5f7318e9877532d5f7be", func := "pilaster/pilasterlaw03.BitsBack", spec := "bitsBack", unfollowed := true, recurses := true, apart := false }
def BitsBackSaid : Prop := bitsBackRow.holds Try.pinned (OpenSpec.ofChange bitsBackSpec)

/-- ITS FALSE NEIGHBOUR: 'it returns false'. Refute it at one input. -/
def bitsBackWrong : ChangeSpec := { name := "bitsBack", fn := fun _ => fun
  | [d1, d2, d3] => { results := [.lit (.bool false)], args := [d1, d2, d3] }
  | _ => none }
def BitsBackWrongFalsely : Prop := bitsBackRow.holds Try.pinned (OpenSpec.ofChange bitsBackWrong)

/-- 'pilasterlaw03.BitsOrder': WHATEVER THE INPUT: true; the input reads as it did. -/
def bitsOrderSpec : ChangeSpec := { name := "bitsOrder", fn := fun _ => fun
  | [d1, d2] => { results := [.lit (.bool true)], args := [d1, d2] }
  | _ => none }
def bitsOrderRow : OpenClaim := { program := "ytbkdhnlhhampfaa", sum := "5e0497aaf613ed8902e243fa16319f5d95eee575033c5f7318e9877532d5f7be", func := "pilaster/pilasterlaw03.BitsOrder", spec := "bitsOrder", unfollowed := true, recurses := true, apart := false }
def BitsOrderSaid : Prop := bitsOrderRow.holds Try.pinned (OpenSpec.ofChange bitsOrderSpec)

/-- ITS FALSE NEIGHBOUR: 'it returns false'. Refute it at one input. -/
def bitsOrderWrong : ChangeSpec := { name := "bitsOrder", fn := fun _ => fun
  | [d1, d2] => { results := [.lit (.bool false)], args := [d1, d2] }
  | _ => none }
def BitsOrderWrongFalsely : Prop := bitsOrderRow.holds Try.pinned (OpenSpec.ofChange bitsOrderWrong)

/-- 'pilasterlaw05.ByterlePuts': WHATEVER THE INPUT: true; the input reads as it did. -/
def byterlePutsSpec : ChangeSpec := { name := "byterlePuts", fn := fun _ => fun
  | [d] => { results := [.lit (.bool true)], args := [d] }
  | _ => none }
def byterlePutsRow : OpenClaim := { program := "ytbkdhnlhhampfaa", sum := "5e0497aaf613ed8902e243fa16319f5d95eee575033c5f7318e9877532d5f7be", func := "pilaster/pilasterlaw05.ByterlePuts", spec := "byterlePuts", inPlace := ["internal/bytealg.MakeNoZero"], unfollowed := true, recurses := true, apart := false }
def ByterlePutsSaid : Prop := byterlePutsRow.holds Try.pinned (OpenSpec.ofChange byterlePutsSpec)

/-- ITS FALSE NEIGHBOUR: 'it returns false'. Refute it at one input. -/
def byterlePutsWrong : ChangeSpec := { name := "byterlePuts", fn := fun _ => fun
  | [d] => { results := [.lit (.bool false)], args := [d] }
  | _ => none }
def ByterlePutsWrongFalsely : Prop := byterlePutsRow.holds Try.pinned (OpenSpec.ofChange byterlePutsWrong)

/-- 'pilasterlaw05.ByterleTakes': WHATEVER THE INPUT: true; the input reads as it did. -/
def byterleTakesSpec : ChangeSpec := { name := "byterleTakes", fn := fun _ => fun
  | [d1, d2] => { results := [.lit (.bool true)], args := [d1, d2] }
  | _ => none }
def byterleTakesRow : OpenClaim := { program := "ytbkdhnlhhampfaa", sum := "5e0497aaf613ed8902e243fa16319f5d95eee575033c5f7318e9877532d5f7be", func := "pilaster/pilasterlaw05.ByterleTakes", spec := "byterleTakes", inPlace := ["internal/bytealg.MakeNoZero"], unfollowed := true, recurses := true, apart := false }
def ByterleTakesSaid : Prop := byterleTakesRow.holds Try.pinned (OpenSpec.ofChange byterleTakesSpec)

/-- ITS FALSE NEIGHBOUR: 'it returns false'. Refute it at one input. -/
def byterleTakesWrong : ChangeSpec := { name := "byterleTakes", fn := fun _ => fun
  | [d1, d2] => { results := [.lit (.bool false)], args := [d1, d2] }
  | _ => none }
def ByterleTakesWrongFalsely : Prop := byterleTakesRow.holds Try.pinned (OpenSpec.ofChange byterleTakesWrong)

/-- 'pilasterlaw05.ByterleBack': WHATEVER THE INPUT: true; the input reads as it did. -/
def byterleBackSpec : ChangeSpec := { name := "byterleBack", fn := fun _ => fun
  | [d1, d2] => { results := [.lit (.bool true)], args := [d1, d2] }
  | _ => none }
def byterleBackRow : OpenClaim := { program := "ytbkdhnlhhampfaa", sum := "5e0497aaf613ed8902e243fa16319f5d95eee575033c5f7318e9877532d5f7be", func := "pilaster/pilasterlaw05.ByterleBack", spec := "byterleBack", inPlace := ["internal/bytealg.MakeNoZero"], unfollowed := true, recurses := true, apart := false }
def ByterleBackSaid : Prop := byterleBackRow.holds Try.pinned (OpenSpec.ofChange byterleBackSpec)

/-- ITS FALSE NEIGHBOUR: 'it returns false'. Refute it at one input. -/
def byterleBackWrong : ChangeSpec := { name := "byterleBack", fn := fun _ => fun
  | [d1, d2] => { results := [.lit (.bool false)], args := [d1, d2] }
  | _ => none }
def ByterleBackWrongFalsely : Prop := byterleBackRow.holds Try.pinned (OpenSpec.ofChange byterleBackWrong)

/- THE SECOND FORM. 'bulk': how many values and letters a reading holds, each counted each time it is reached (what is shared counts as often as it is met; a slice's spare places count too). A statement '..UptoSaid' is the law's where the arguments, and the package variables that the reading takes, are together of bulk at most 1048576: NARROWER than '..Said'. Prove '..Said' where nothing that the law and all that it calls make is longer than what came in: it says more and counts as full. Else prove '..UptoSaid'. A law counts once. -/
mutual
def uptoBulk {H : Type} : DataW H → Nat
  | .lit (.string bytes) => bytes.length + 1
  | .lit _ => 1
  | .nil => 1
  | .ptr d => uptoBulk d + 1
  | .slice elems spare => uptoBulkAll elems + uptoBulkAll spare + 1
  | .agg parts => uptoBulkAll parts + 1
  | .iface _ d => uptoBulk d + 1
  | .map entries => uptoBulkEntries entries + 1
  | .held _ => 1
def uptoBulkAll {H : Type} : List (DataW H) → Nat
  | [] => 0
  | d :: r => uptoBulk d + uptoBulkAll r
def uptoBulkEntries {H : Type} : List (Lit × DataW H) → Nat
  | [] => 0
  | x :: r => uptoBulkEntry x + uptoBulkEntries r
def uptoBulkEntry {H : Type} : Lit × DataW H → Nat
  | (.string bytes, d) => bytes.length + uptoBulk d + 1
  | (_, d) => uptoBulk d + 1
 end
def uptoSmall : (H : Type) → List (DataW H) → Bool := fun _ ds => decide (uptoBulkAll ds ≤ 1048576)
def OpenSpec.upto (s : _root_.Go.ChangeSpec) : _root_.Go.OpenSpec := { _root_.Go.OpenSpec.ofChange s with cond := some uptoSmall }

/-- 'pilasterlaw07.RepeatPuts', WHERE WHAT IT READS IS OF BULK AT MOST 1048576: true; the input reads as it did. -/
def repeatPutsUptoRow : OpenClaim := { program := "ytbkdhnlhhampfaa", sum := "5e0497aaf613ed8902e243fa16319f5d95eee575033c5f7318e9877532d5f7be", func := "pilaster/pilasterlaw07.RepeatPuts", spec := "repeatPuts", apart := false, narrowed := true }
def RepeatPutsUptoSaid : Prop := repeatPutsUptoRow.holds Try.pinned (OpenSpec.upto repeatPutsSpec)

/-- 'pilasterlaw02.WidthsCodes', WHERE WHAT IT READS IS OF BULK AT MOST 1048576: true; the input reads as it did. -/
def widthsCodesUptoRow : OpenClaim := { program := "ytbkdhnlhhampfaa", sum := "5e0497aaf613ed8902e243fa16319f5d95eee575033c5f7318e9877532d5f7be", func := "pilaster/pilasterlaw02.WidthsCodes", spec := "widthsCodes", apart := false, narrowed := true }
def WidthsCodesUptoSaid : Prop := widthsCodesUptoRow.holds Try.pinned (OpenSpec.upto widthsCodesSpec)

/-- 'pilasterlaw02.WidthsBack', WHERE WHAT IT READS IS OF BULK AT MOST 1048576: true; the input reads as it did. -/
def widthsBackUptoRow : OpenClaim := { program := "ytbkdhnlhhampfaa", sum := "5e0497aaf613ed8902e243fa16319f5d95eee575033c5f7318e9877532d5f7be", func := "pilaster/pilasterlaw02.WidthsBack", spec := "widthsBack", apart := false, narrowed := true }
def WidthsBackUptoSaid : Prop := widthsBackUptoRow.holds Try.pinned (OpenSpec.upto widthsBackSpec)

/-- 'pilasterlaw02.WidthsRoom', WHERE WHAT IT READS IS OF BULK AT MOST 1048576: true; the input reads as it did. -/
def widthsRoomUptoRow : OpenClaim := { program := "ytbkdhnlhhampfaa", sum := "5e0497aaf613ed8902e243fa16319f5d95eee575033c5f7318e9877532d5f7be", func := "pilaster/pilasterlaw02.WidthsRoom", spec := "widthsRoom", apart := false, narrowed := true }
def WidthsRoomUptoSaid : Prop := widthsRoomUptoRow.holds Try.pinned (OpenSpec.upto widthsRoomSpec)

/-- 'pilasterlaw02.WidthsBits', WHERE WHAT IT READS IS OF BULK AT MOST 1048576: true; the input reads as it did. -/
def widthsBitsUptoRow : OpenClaim := { program := "ytbkdhnlhhampfaa", sum := "5e0497aaf613ed8902e243fa16319f5d95eee575033c5f7318e9877532d5f7be", func := "pilaster/pilasterlaw02.WidthsBits", spec := "widthsBits", apart := false, narrowed := true }
def WidthsBitsUptoSaid : Prop := widthsBitsUptoRow.holds Try.pinned (OpenSpec.upto widthsBitsSpec)

/-- 'pilasterlaw02.WidthsRise', WHERE WHAT IT READS IS OF BULK AT MOST 1048576: true; the input reads as it did. -/
def widthsRiseUptoRow : OpenClaim := { program := "ytbkdhnlhhampfaa", sum := "5e0497aaf613ed8902e243fa16319f5d95eee575033c5f7318e9877532d5f7be", func := "pilaster/pilasterlaw02.WidthsRise", spec := "widthsRise", apart := false, narrowed := true }
def WidthsRiseUptoSaid : Prop := widthsRiseUptoRow.holds Try.pinned (OpenSpec.upto widthsRiseSpec)

/-- 'pilasterlaw07.RepeatTakes', WHERE WHAT IT READS IS OF BULK AT MOST 1048576: true; the input reads as it did. -/
def repeatTakesUptoRow : OpenClaim := { program := "ytbkdhnlhhampfaa", sum := "5e0497aaf613ed8902e243fa16319f5d95eee575033c5f7318e9877532d5f7be", func := "pilaster/pilasterlaw07.RepeatTakes", spec := "repeatTakes", apart := false, narrowed := true }
def RepeatTakesUptoSaid : Prop := repeatTakesUptoRow.holds Try.pinned (OpenSpec.upto repeatTakesSpec)

/-- 'pilasterlaw07.RepeatBack', WHERE WHAT IT READS IS OF BULK AT MOST 1048576: true; the input reads as it did. -/
def repeatBackUptoRow : OpenClaim := { program := "ytbkdhnlhhampfaa", sum := "5e0497aaf613ed8902e243fa16319f5d95eee575033c5f7318e9877532d5f7be", func := "pilaster/pilasterlaw07.RepeatBack", spec := "repeatBack", apart := false, narrowed := true }
def RepeatBackUptoSaid : Prop := repeatBackUptoRow.holds Try.pinned (OpenSpec.upto repeatBackSpec)

/-- 'pilasterlaw03.BitsPacks', WHERE WHAT IT READS IS OF BULK AT MOST 1048576: true; the input reads as it did. -/
def bitsPacksUptoRow : OpenClaim := { program := "ytbkdhnlhhampfaa", sum := "5e0497aaf613ed8902e243fa16319f5d95eee575033c5f7318e9877532d5f7be", func := "pilaster/pilasterlaw03.BitsPacks", spec := "bitsPacks", unfollowed := true, recurses := true, apart := false, narrowed := true }
def BitsPacksUptoSaid : Prop := bitsPacksUptoRow.holds Try.pinned (OpenSpec.upto bitsPacksSpec)

/-- 'pilasterlaw03.BitsUnpacks', WHERE WHAT IT READS IS OF BULK AT MOST 1048576: true; the input reads as it did. -/
def bitsUnpacksUptoRow : OpenClaim := { program := "ytbkdhnlhhampfaa", sum := "5e0497aaf613ed8902e243fa16319f5d95eee575033c5f7318e9877532d5f7be", func := "pilaster/pilasterlaw03.BitsUnpacks", spec := "bitsUnpacks", unfollowed := true, recurses := true, apart := false, narrowed := true }
def BitsUnpacksUptoSaid : Prop := bitsUnpacksUptoRow.holds Try.pinned (OpenSpec.upto bitsUnpacksSpec)

/-- 'pilasterlaw03.BitsBack', WHERE WHAT IT READS IS OF BULK AT MOST 1048576: true; the input reads as it did. -/
def bitsBackUptoRow : OpenClaim := { program := "ytbkdhnlhhampfaa", sum := "5e0497aaf613ed8902e243fa16319f5d95eee575033c5f7318e9877532d5f7be", func := "pilaster/pilasterlaw03.BitsBack", spec := "bitsBack", unfollowed := true, recurses := true, apart := false, narrowed := true }
def BitsBackUptoSaid : Prop := bitsBackUptoRow.holds Try.pinned (OpenSpec.upto bitsBackSpec)

/-- 'pilasterlaw03.BitsOrder', WHERE WHAT IT READS IS OF BULK AT MOST 1048576: true; the input reads as it did. -/
def bitsOrderUptoRow : OpenClaim := { program := "ytbkdhnlhhampfaa", sum := "5e0497aaf613ed8902e243fa16319f5d95eee575033c5f7318e9877532d5f7be", func := "pilaster/pilasterlaw03.BitsOrder", spec := "bitsOrder", unfollowed := true, recurses := true, apart := false, narrowed := true }
def BitsOrderUptoSaid : Prop := bitsOrderUptoRow.holds Try.pinned (OpenSpec.upto bitsOrderSpec)

/-- 'pilasterlaw05.ByterlePuts', WHERE WHAT IT READS IS OF BULK AT MOST 1048576: true; the input reads as it did. -/
def byterlePutsUptoRow : OpenClaim := { program := "ytbkdhnlhhampfaa", sum := "5e0497aaf613ed8902e243fa16319f5d95eee575033c5f7318e9877532d5f7be", func := "pilaster/pilasterlaw05.ByterlePuts", spec := "byterlePuts", inPlace := ["internal/bytealg.MakeNoZero"], unfollowed := true, recurses := true, apart := false, narrowed := true }
def ByterlePutsUptoSaid : Prop := byterlePutsUptoRow.holds Try.pinned (OpenSpec.upto byterlePutsSpec)

/-- 'pilasterlaw05.ByterleTakes', WHERE WHAT IT READS IS OF BULK AT MOST 1048576: true; the input reads as it did. -/
def byterleTakesUptoRow : OpenClaim := { program := "ytbkdhnlhhampfaa", sum := "5e0497aaf613ed8902e243fa16319f5d95eee575033c5f7318e9877532d5f7be", func := "pilaster/pilasterlaw05.ByterleTakes", spec := "byterleTakes", inPlace := ["internal/bytealg.MakeNoZero"], unfollowed := true, recurses := true, apart := false, narrowed := true }
def ByterleTakesUptoSaid : Prop := byterleTakesUptoRow.holds Try.pinned (OpenSpec.upto byterleTakesSpec)

/-- 'pilasterlaw05.ByterleBack', WHERE WHAT IT READS IS OF BULK AT MOST 1048576: true; the input reads as it did. -/
def byterleBackUptoRow : OpenClaim := { program := "ytbkdhnlhhampfaa", sum := "5e0497aaf613ed8902e243fa16319f5d95eee575033c5f7318e9877532d5f7be", func := "pilaster/pilasterlaw05.ByterleBack", spec := "byterleBack", inPlace := ["internal/bytealg.MakeNoZero"], unfollowed := true, recurses := true, apart := false, narrowed := true }
def ByterleBackUptoSaid : Prop := byterleBackUptoRow.holds Try.pinned (OpenSpec.upto byterleBackSpec)

end Rows
end Go.Proofs.Ytbkdhnlhhampfaa

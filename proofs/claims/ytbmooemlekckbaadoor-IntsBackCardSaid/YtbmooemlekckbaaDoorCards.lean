/-
  DERIVED. GIVEN WITH THE SEED: THE CARDS: each row of YtbmooemlekckbaaDoorRows.lean that lists a variable, with what it lists TIED to the program's text (the seventh form; the later family's looks); each row that meets fmt, with fmt's text TOLD by the authors' own Lean function (tested against real Go, not proved from fmt's source: count such statements apart). THE CARD IS WHAT COUNTS. Prove the row's statement (the work); the ties are given (YtbmooemlekckbaaDoorTie.lean); close each card by the builder's one call (the guide's Derived/Test/ToyasCard.lean, 'card_holds'). Laid BY PROGRAM, IN A SANDBOX (cutbox-door.mjs). By AI agents, Wed Nov 11 2026. No macro, syntax, notation, axiom, sorry.
-/
import Derived.Test.YtbmooemlekckbaaDoorRows
import GoSem.ClaimSeven
namespace Go.Proofs.YtbmooemlekckbaaDoor
namespace Rows

/-- THE TIED CARD OF 'pilasterlaw14.IntsBack'. -/
def intsBackCard : Claim7 := { stood := { row := intsBackRow, standIns := [], harness := (true, "becebf81695db2873b4a279e8e20dcaba0794abb188e2100ebbf634895a95af8"), looks := false }, kinds := [], alts := [], laidByText := true, laidKinds := [.data, .pinned], laidTests := true, laidLooks := .later }
def IntsBackCardSaid : Prop := Claim7.holds Tryd.pinned (.plain (OpenSpec.ofChange intsBackSpec)) intsBackCard

/-- THE SECOND FORM's CARD OF 'pilasterlaw14.IntsBack'. -/
def intsBackUptoCard : Claim7 := { stood := { row := intsBackUptoRow, standIns := [], harness := (true, "becebf81695db2873b4a279e8e20dcaba0794abb188e2100ebbf634895a95af8"), looks := false }, kinds := [], alts := [], laidByText := true, laidKinds := [.data, .pinned], laidTests := true, laidLooks := .later }
def IntsBackUptoCardSaid : Prop := Claim7.holds Tryd.pinned (.plain (OpenSpec.upto intsBackSpec)) intsBackUptoCard
end Rows
end Go.Proofs.YtbmooemlekckbaaDoor

/-
  DERIVED. GIVEN WITH THE SEED: THE CARDS: each row of YtbmooemlekckbaaGreatDoorRows.lean that lists a variable, with what it lists TIED to the program's text (the seventh form; the later family's looks); each row that meets fmt, with fmt's text TOLD by the authors' own Lean function (tested against real Go, not proved from fmt's source: count such statements apart). THE CARD IS WHAT COUNTS. Prove the row's statement (the work); the ties are given (YtbmooemlekckbaaGreatDoorTie.lean); close each card by the builder's one call (the guide's Derived/Test/ToyasCard.lean, 'card_holds'). Laid BY PROGRAM, IN A SANDBOX (cutbox-door.mjs). By AI agents, Wed Nov 11 2026. No macro, syntax, notation, axiom, sorry.
-/
import Derived.Test.YtbmooemlekckbaaGreatDoorRows
import GoSem.ClaimSeven
namespace Go.Proofs.YtbmooemlekckbaaGreatDoor
namespace Rows

/-- THE TIED CARD OF 'pilasterlaw14.IntsPuts'. -/
def intsPutsCard : Claim7 := { stood := { row := intsPutsRow, standIns := [], harness := (true, "4a3ed5779f66fd6afe75f37c7b76b419eae68976d20e38dc96689ac8ad14ce93"), looks := false }, kinds := [], alts := [], laidByText := true, laidKinds := [.data, .pinned], laidTests := true, laidLooks := .later }
def IntsPutsCardSaid : Prop := Claim7.holds Tryz.pinned (.plain (OpenSpec.ofChange intsPutsSpec)) intsPutsCard

/-- THE TIED CARD OF 'pilasterlaw14.IntsTakes'. -/
def intsTakesCard : Claim7 := { stood := { row := intsTakesRow, standIns := [], harness := (true, "4a3ed5779f66fd6afe75f37c7b76b419eae68976d20e38dc96689ac8ad14ce93"), looks := false }, kinds := [], alts := [], laidByText := true, laidKinds := [.data, .pinned], laidTests := true, laidLooks := .later }
def IntsTakesCardSaid : Prop := Claim7.holds Tryz.pinned (.plain (OpenSpec.ofChange intsTakesSpec)) intsTakesCard

/-- THE SECOND FORM's CARD OF 'pilasterlaw14.IntsPuts'. -/
def intsPutsUptoCard : Claim7 := { stood := { row := intsPutsUptoRow, standIns := [], harness := (true, "4a3ed5779f66fd6afe75f37c7b76b419eae68976d20e38dc96689ac8ad14ce93"), looks := false }, kinds := [], alts := [], laidByText := true, laidKinds := [.data, .pinned], laidTests := true, laidLooks := .later }
def IntsPutsUptoCardSaid : Prop := Claim7.holds Tryz.pinned (.plain (OpenSpec.upto intsPutsSpec)) intsPutsUptoCard

/-- THE SECOND FORM's CARD OF 'pilasterlaw14.IntsTakes'. -/
def intsTakesUptoCard : Claim7 := { stood := { row := intsTakesUptoRow, standIns := [], harness := (true, "4a3ed5779f66fd6afe75f37c7b76b419eae68976d20e38dc96689ac8ad14ce93"), looks := false }, kinds := [], alts := [], laidByText := true, laidKinds := [.data, .pinned], laidTests := true, laidLooks := .later }
def IntsTakesUptoCardSaid : Prop := Claim7.holds Tryz.pinned (.plain (OpenSpec.upto intsTakesSpec)) intsTakesUptoCard
end Rows
end Go.Proofs.YtbmooemlekckbaaGreatDoor

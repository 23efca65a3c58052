/-
  DERIVED. GIVEN WITH THE SEED: THE CARDS: each row of YtekdcnlbdgikoaaDoorRows.lean that lists a variable, with what it lists TIED to the program's text (the seventh form; the later family's looks); each row that meets fmt, with fmt's text TOLD by the authors' own Lean function (tested against real Go, not proved from fmt's source: count such statements apart). THE CARD IS WHAT COUNTS. Prove the row's statement (the work); the ties are given (YtekdcnlbdgikoaaDoorTie.lean); close each card by the builder's one call (the guide's Derived/Test/ToyasCard.lean, 'card_holds'). Laid BY PROGRAM, IN A SANDBOX (cutbox-door.mjs). By AI agents, Wed Nov 11 2026. No macro, syntax, notation, axiom, sorry.
-/
import Derived.Test.YtekdcnlbdgikoaaDoorRows
import GoSem.ClaimSeven
namespace Go.Proofs.YtekdcnlbdgikoaaDoor
namespace Rows

/-- THE TIED CARD OF 'pilasterlaw23.DiskSafe'. -/
def diskSafeCard : Claim7 := { stood := { row := diskSafeRow, standIns := [], harness := (true, "ce49fcab9c081ed362ca9ea72cbd89b8a3da3bc0365cae0a64bc90e6d011bcbc"), looks := true }, kinds := [], alts := [], laidByText := true, laidKinds := [.data, .pinned], laidTests := true, laidLooks := .later }
def DiskSafeCardSaid : Prop := Claim7.holds Tryd.pinned (.plain (OpenSpec.ofChange diskSafeSpec)) diskSafeCard

/-- THE TIED CARD OF 'pilasterlaw23.DiskMoves'. -/
def diskMovesCard : Claim7 := { stood := { row := diskMovesRow, standIns := [], harness := (true, "ce49fcab9c081ed362ca9ea72cbd89b8a3da3bc0365cae0a64bc90e6d011bcbc"), looks := true }, kinds := [], alts := [], laidByText := true, laidKinds := [.data, .pinned], laidTests := true, laidLooks := .later }
def DiskMovesCardSaid : Prop := Claim7.holds Tryd.pinned (.plain (OpenSpec.ofChange diskMovesSpec)) diskMovesCard

/-- THE TIED CARD OF 'pilasterlaw23.DiskQuota'. -/
def diskQuotaCard : Claim7 := { stood := { row := diskQuotaRow, standIns := [], harness := (true, "ce49fcab9c081ed362ca9ea72cbd89b8a3da3bc0365cae0a64bc90e6d011bcbc"), looks := true }, kinds := [], alts := [], laidByText := true, laidKinds := [.data, .pinned], laidTests := true, laidLooks := .later }
def DiskQuotaCardSaid : Prop := Claim7.holds Tryd.pinned (.plain (OpenSpec.ofChange diskQuotaSpec)) diskQuotaCard

/-- THE TIED CARD OF 'pilasterlaw23.DiskSteps'. -/
def diskStepsCard : Claim7 := { stood := { row := diskStepsRow, standIns := [], harness := (true, "ce49fcab9c081ed362ca9ea72cbd89b8a3da3bc0365cae0a64bc90e6d011bcbc"), looks := true }, kinds := [], alts := [], laidByText := true, laidKinds := [.data, .pinned], laidTests := true, laidLooks := .later }
def DiskStepsCardSaid : Prop := Claim7.holds Tryd.pinned (.plain (OpenSpec.ofChange diskStepsSpec)) diskStepsCard

/-- THE TIED CARD OF 'pilasterlaw23.DiskPlays'. -/
def diskPlaysCard : Claim7 := { stood := { row := diskPlaysRow, standIns := [], harness := (true, "ce49fcab9c081ed362ca9ea72cbd89b8a3da3bc0365cae0a64bc90e6d011bcbc"), looks := true }, kinds := [], alts := [], laidByText := true, laidKinds := [.data, .pinned], laidTests := true, laidLooks := .later }
def DiskPlaysCardSaid : Prop := Claim7.holds Tryd.pinned (.plain (OpenSpec.ofChange diskPlaysSpec)) diskPlaysCard

/-- THE SECOND FORM's CARD OF 'pilasterlaw23.DiskSafe'. -/
def diskSafeUptoCard : Claim7 := { stood := { row := diskSafeUptoRow, standIns := [], harness := (true, "ce49fcab9c081ed362ca9ea72cbd89b8a3da3bc0365cae0a64bc90e6d011bcbc"), looks := true }, kinds := [], alts := [], laidByText := true, laidKinds := [.data, .pinned], laidTests := true, laidLooks := .later }
def DiskSafeUptoCardSaid : Prop := Claim7.holds Tryd.pinned (.plain (OpenSpec.upto diskSafeSpec)) diskSafeUptoCard

/-- THE SECOND FORM's CARD OF 'pilasterlaw23.DiskMoves'. -/
def diskMovesUptoCard : Claim7 := { stood := { row := diskMovesUptoRow, standIns := [], harness := (true, "ce49fcab9c081ed362ca9ea72cbd89b8a3da3bc0365cae0a64bc90e6d011bcbc"), looks := true }, kinds := [], alts := [], laidByText := true, laidKinds := [.data, .pinned], laidTests := true, laidLooks := .later }
def DiskMovesUptoCardSaid : Prop := Claim7.holds Tryd.pinned (.plain (OpenSpec.upto diskMovesSpec)) diskMovesUptoCard

/-- THE SECOND FORM's CARD OF 'pilasterlaw23.DiskQuota'. -/
def diskQuotaUptoCard : Claim7 := { stood := { row := diskQuotaUptoRow, standIns := [], harness := (true, "ce49fcab9c081ed362ca9ea72cbd89b8a3da3bc0365cae0a64bc90e6d011bcbc"), looks := true }, kinds := [], alts := [], laidByText := true, laidKinds := [.data, .pinned], laidTests := true, laidLooks := .later }
def DiskQuotaUptoCardSaid : Prop := Claim7.holds Tryd.pinned (.plain (OpenSpec.upto diskQuotaSpec)) diskQuotaUptoCard

/-- THE SECOND FORM's CARD OF 'pilasterlaw23.DiskSteps'. -/
def diskStepsUptoCard : Claim7 := { stood := { row := diskStepsUptoRow, standIns := [], harness := (true, "ce49fcab9c081ed362ca9ea72cbd89b8a3da3bc0365cae0a64bc90e6d011bcbc"), looks := true }, kinds := [], alts := [], laidByText := true, laidKinds := [.data, .pinned], laidTests := true, laidLooks := .later }
def DiskStepsUptoCardSaid : Prop := Claim7.holds Tryd.pinned (.plain (OpenSpec.upto diskStepsSpec)) diskStepsUptoCard

/-- THE SECOND FORM's CARD OF 'pilasterlaw23.DiskPlays'. -/
def diskPlaysUptoCard : Claim7 := { stood := { row := diskPlaysUptoRow, standIns := [], harness := (true, "ce49fcab9c081ed362ca9ea72cbd89b8a3da3bc0365cae0a64bc90e6d011bcbc"), looks := true }, kinds := [], alts := [], laidByText := true, laidKinds := [.data, .pinned], laidTests := true, laidLooks := .later }
def DiskPlaysUptoCardSaid : Prop := Claim7.holds Tryd.pinned (.plain (OpenSpec.upto diskPlaysSpec)) diskPlaysUptoCard
end Rows
end Go.Proofs.YtekdcnlbdgikoaaDoor

/-
  DERIVED. GIVEN WITH THE SEED: THE CARDS: each row of YtfdmdcpopmcmcaaGreatDoorRows.lean that lists a variable, with what it lists TIED to the program's text (the seventh form; the later family's looks); each row that meets fmt, with fmt's text TOLD by the authors' own Lean function (tested against real Go, not proved from fmt's source: count such statements apart). THE CARD IS WHAT COUNTS. Prove the row's statement (the work); the ties are given (YtfdmdcpopmcmcaaGreatDoorTie.lean); close each card by the builder's one call (the guide's Derived/Test/ToyasCard.lean, 'card_holds'). Laid BY PROGRAM, IN A SANDBOX (cutbox-door.mjs). By AI agents, Wed Nov 11 2026. No macro, syntax, notation, axiom, sorry.
-/
import Derived.Test.YtfdmdcpopmcmcaaGreatDoorRows
import GoSem.ClaimSeven
namespace Go.Proofs.YtfdmdcpopmcmcaaGreatDoor
namespace Rows

/-- THE TIED CARD OF 'lookoutlaw14.LoglineFields'. -/
def loglineFieldsCard : Claim7 := { stood := { row := loglineFieldsRow, standIns := [], harness := (true, "30af926a0564c12752bb9b8c97d792d78051d4bd284db657580df769305550ff"), looks := false }, kinds := [], alts := [], laidByText := true, laidKinds := [.data, .pinned], laidTests := true, laidLooks := .later }
def LoglineFieldsCardSaid : Prop := Claim7.holds Tryz.pinned (.plain (OpenSpec.ofChange loglineFieldsSpec)) loglineFieldsCard

/-- THE TIED CARD OF 'lookoutlaw14.LoglineOrder'. -/
def loglineOrderCard : Claim7 := { stood := { row := loglineOrderRow, standIns := [], harness := (true, "30af926a0564c12752bb9b8c97d792d78051d4bd284db657580df769305550ff"), looks := false }, kinds := [], alts := [], laidByText := true, laidKinds := [.data, .pinned], laidTests := true, laidLooks := .later }
def LoglineOrderCardSaid : Prop := Claim7.holds Tryz.pinned (.plain (OpenSpec.ofChange loglineOrderSpec)) loglineOrderCard

/-- THE TIED CARD OF 'lookoutlaw14.LoglineEntries'. -/
def loglineEntriesCard : Claim7 := { stood := { row := loglineEntriesRow, standIns := [], harness := (true, "30af926a0564c12752bb9b8c97d792d78051d4bd284db657580df769305550ff"), looks := false }, kinds := [], alts := [], laidByText := true, laidKinds := [.data, .pinned], laidTests := true, laidLooks := .later }
def LoglineEntriesCardSaid : Prop := Claim7.holds Tryz.pinned (.plain (OpenSpec.ofChange loglineEntriesSpec)) loglineEntriesCard

/-- THE TIED CARD OF 'lookoutlaw14.LoglineInsert'. -/
def loglineInsertCard : Claim7 := { stood := { row := loglineInsertRow, standIns := [], harness := (true, "30af926a0564c12752bb9b8c97d792d78051d4bd284db657580df769305550ff"), looks := false }, kinds := [], alts := [], laidByText := true, laidKinds := [.data, .pinned], laidTests := true, laidLooks := .later }
def LoglineInsertCardSaid : Prop := Claim7.holds Tryz.pinned (.plain (OpenSpec.ofChange loglineInsertSpec)) loglineInsertCard

/-- THE TIED CARD OF 'lookoutlaw14.LoglineInserts'. -/
def loglineInsertsCard : Claim7 := { stood := { row := loglineInsertsRow, standIns := [], harness := (true, "30af926a0564c12752bb9b8c97d792d78051d4bd284db657580df769305550ff"), looks := false }, kinds := [], alts := [], laidByText := true, laidKinds := [.data, .pinned], laidTests := true, laidLooks := .later }
def LoglineInsertsCardSaid : Prop := Claim7.holds Tryz.pinned (.plain (OpenSpec.ofChange loglineInsertsSpec)) loglineInsertsCard

/-- THE SECOND FORM's CARD OF 'lookoutlaw14.LoglineFields'. -/
def loglineFieldsUptoCard : Claim7 := { stood := { row := loglineFieldsUptoRow, standIns := [], harness := (true, "30af926a0564c12752bb9b8c97d792d78051d4bd284db657580df769305550ff"), looks := false }, kinds := [], alts := [], laidByText := true, laidKinds := [.data, .pinned], laidTests := true, laidLooks := .later }
def LoglineFieldsUptoCardSaid : Prop := Claim7.holds Tryz.pinned (.plain (OpenSpec.upto loglineFieldsSpec)) loglineFieldsUptoCard

/-- THE SECOND FORM's CARD OF 'lookoutlaw14.LoglineOrder'. -/
def loglineOrderUptoCard : Claim7 := { stood := { row := loglineOrderUptoRow, standIns := [], harness := (true, "30af926a0564c12752bb9b8c97d792d78051d4bd284db657580df769305550ff"), looks := false }, kinds := [], alts := [], laidByText := true, laidKinds := [.data, .pinned], laidTests := true, laidLooks := .later }
def LoglineOrderUptoCardSaid : Prop := Claim7.holds Tryz.pinned (.plain (OpenSpec.upto loglineOrderSpec)) loglineOrderUptoCard

/-- THE SECOND FORM's CARD OF 'lookoutlaw14.LoglineEntries'. -/
def loglineEntriesUptoCard : Claim7 := { stood := { row := loglineEntriesUptoRow, standIns := [], harness := (true, "30af926a0564c12752bb9b8c97d792d78051d4bd284db657580df769305550ff"), looks := false }, kinds := [], alts := [], laidByText := true, laidKinds := [.data, .pinned], laidTests := true, laidLooks := .later }
def LoglineEntriesUptoCardSaid : Prop := Claim7.holds Tryz.pinned (.plain (OpenSpec.upto loglineEntriesSpec)) loglineEntriesUptoCard

/-- THE SECOND FORM's CARD OF 'lookoutlaw14.LoglineInsert'. -/
def loglineInsertUptoCard : Claim7 := { stood := { row := loglineInsertUptoRow, standIns := [], harness := (true, "30af926a0564c12752bb9b8c97d792d78051d4bd284db657580df769305550ff"), looks := false }, kinds := [], alts := [], laidByText := true, laidKinds := [.data, .pinned], laidTests := true, laidLooks := .later }
def LoglineInsertUptoCardSaid : Prop := Claim7.holds Tryz.pinned (.plain (OpenSpec.upto loglineInsertSpec)) loglineInsertUptoCard

/-- THE SECOND FORM's CARD OF 'lookoutlaw14.LoglineInserts'. -/
def loglineInsertsUptoCard : Claim7 := { stood := { row := loglineInsertsUptoRow, standIns := [], harness := (true, "30af926a0564c12752bb9b8c97d792d78051d4bd284db657580df769305550ff"), looks := false }, kinds := [], alts := [], laidByText := true, laidKinds := [.data, .pinned], laidTests := true, laidLooks := .later }
def LoglineInsertsUptoCardSaid : Prop := Claim7.holds Tryz.pinned (.plain (OpenSpec.upto loglineInsertsSpec)) loglineInsertsUptoCard
end Rows
end Go.Proofs.YtfdmdcpopmcmcaaGreatDoor

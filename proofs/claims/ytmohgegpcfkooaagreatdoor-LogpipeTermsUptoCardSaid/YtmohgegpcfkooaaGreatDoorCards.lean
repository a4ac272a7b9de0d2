/-
  DERIVED. GIVEN WITH THE SEED: THE CARDS: each row of YtmohgegpcfkooaaGreatDoorRows.lean that lists a variable, with what it lists TIED to the program's text (the seventh form; the later family's looks); each row that meets fmt, with fmt's text TOLD by the authors' own Lean function (tested against real Go, not proved from fmt's source: count such statements apart). THE CARD IS WHAT COUNTS. Prove the row's statement (the work); the ties are given (YtmohgegpcfkooaaGreatDoorTie.lean); close each card by the builder's one call (the guide's Derived/Test/ToyasCard.lean, 'card_holds'). Laid BY PROGRAM, IN A SANDBOX (cutbox-door.mjs). By AI agents, Wed Nov 11 2026. No macro, syntax, notation, axiom, sorry.
-/
import Derived.Test.YtmohgegpcfkooaaGreatDoorRows
import GoSem.ClaimSeven
namespace Go.Proofs.YtmohgegpcfkooaaGreatDoor
namespace Rows

/-- THE TIED CARD OF 'lookoutlaw37.LogpipeTerms'. -/
def logpipeTermsCard : Claim7 := { stood := { row := logpipeTermsRow, standIns := [], harness := (true, "1aa10966e160d4392c4c909022cfbf74ff77efe6534c4e71f1a2a0beb2ef0ea0"), looks := true }, kinds := [], alts := [], laidByText := true, laidKinds := [.data, .pinned], laidTests := true, laidLooks := .later }
def LogpipeTermsCardSaid : Prop := Claim7.holds Tryz.pinned (.plain (OpenSpec.ofChange logpipeTermsSpec)) logpipeTermsCard

/-- THE TIED CARD OF 'lookoutlaw37.LogpipeKeeps'. -/
def logpipeKeepsCard : Claim7 := { stood := { row := logpipeKeepsRow, standIns := [], harness := (true, "1aa10966e160d4392c4c909022cfbf74ff77efe6534c4e71f1a2a0beb2ef0ea0"), looks := true }, kinds := [], alts := [], laidByText := true, laidKinds := [.data, .pinned], laidTests := true, laidLooks := .later }
def LogpipeKeepsCardSaid : Prop := Claim7.holds Tryz.pinned (.plain (OpenSpec.ofChange logpipeKeepsSpec)) logpipeKeepsCard

/-- THE TIED CARD OF 'lookoutlaw37.LogpipeSound'. -/
def logpipeSoundCard : Claim7 := { stood := { row := logpipeSoundRow, standIns := [], harness := (true, "1aa10966e160d4392c4c909022cfbf74ff77efe6534c4e71f1a2a0beb2ef0ea0"), looks := true }, kinds := [], alts := [], laidByText := true, laidKinds := [.data, .pinned], laidTests := true, laidLooks := .later }
def LogpipeSoundCardSaid : Prop := Claim7.holds Tryz.pinned (.plain (OpenSpec.ofChange logpipeSoundSpec)) logpipeSoundCard

/-- THE TIED CARD OF 'lookoutlaw37.LogpipeComposes'. -/
def logpipeComposesCard : Claim7 := { stood := { row := logpipeComposesRow, standIns := [], harness := (true, "1aa10966e160d4392c4c909022cfbf74ff77efe6534c4e71f1a2a0beb2ef0ea0"), looks := true }, kinds := [], alts := [], laidByText := true, laidKinds := [.data, .pinned], laidTests := true, laidLooks := .later }
def LogpipeComposesCardSaid : Prop := Claim7.holds Tryz.pinned (.plain (OpenSpec.ofChange logpipeComposesSpec)) logpipeComposesCard

/-- THE TIED CARD OF 'lookoutlaw37.LogpipeFilters'. -/
def logpipeFiltersCard : Claim7 := { stood := { row := logpipeFiltersRow, standIns := [], harness := (true, "1aa10966e160d4392c4c909022cfbf74ff77efe6534c4e71f1a2a0beb2ef0ea0"), looks := true }, kinds := [], alts := [], laidByText := true, laidKinds := [.data, .pinned], laidTests := true, laidLooks := .later }
def LogpipeFiltersCardSaid : Prop := Claim7.holds Tryz.pinned (.plain (OpenSpec.ofChange logpipeFiltersSpec)) logpipeFiltersCard

/-- THE TIED CARD OF 'lookoutlaw37.LogpipeRun'. -/
def logpipeRunCard : Claim7 := { stood := { row := logpipeRunRow, standIns := [], harness := (true, "1aa10966e160d4392c4c909022cfbf74ff77efe6534c4e71f1a2a0beb2ef0ea0"), looks := true }, kinds := [], alts := [], laidByText := true, laidKinds := [.data, .data, .data, .data, .sentinel, .sentinel, .pinned], laidTests := true, laidLooks := .later }
def LogpipeRunCardSaid : Prop := Claim7.holds Tryz.pinned (.plain (OpenSpec.ofChange logpipeRunSpec)) logpipeRunCard

/-- THE SECOND FORM's CARD OF 'lookoutlaw37.LogpipeTerms'. -/
def logpipeTermsUptoCard : Claim7 := { stood := { row := logpipeTermsUptoRow, standIns := [], harness := (true, "1aa10966e160d4392c4c909022cfbf74ff77efe6534c4e71f1a2a0beb2ef0ea0"), looks := true }, kinds := [], alts := [], laidByText := true, laidKinds := [.data, .pinned], laidTests := true, laidLooks := .later }
def LogpipeTermsUptoCardSaid : Prop := Claim7.holds Tryz.pinned (.plain (OpenSpec.upto logpipeTermsSpec)) logpipeTermsUptoCard

/-- THE SECOND FORM's CARD OF 'lookoutlaw37.LogpipeKeeps'. -/
def logpipeKeepsUptoCard : Claim7 := { stood := { row := logpipeKeepsUptoRow, standIns := [], harness := (true, "1aa10966e160d4392c4c909022cfbf74ff77efe6534c4e71f1a2a0beb2ef0ea0"), looks := true }, kinds := [], alts := [], laidByText := true, laidKinds := [.data, .pinned], laidTests := true, laidLooks := .later }
def LogpipeKeepsUptoCardSaid : Prop := Claim7.holds Tryz.pinned (.plain (OpenSpec.upto logpipeKeepsSpec)) logpipeKeepsUptoCard

/-- THE SECOND FORM's CARD OF 'lookoutlaw37.LogpipeSound'. -/
def logpipeSoundUptoCard : Claim7 := { stood := { row := logpipeSoundUptoRow, standIns := [], harness := (true, "1aa10966e160d4392c4c909022cfbf74ff77efe6534c4e71f1a2a0beb2ef0ea0"), looks := true }, kinds := [], alts := [], laidByText := true, laidKinds := [.data, .pinned], laidTests := true, laidLooks := .later }
def LogpipeSoundUptoCardSaid : Prop := Claim7.holds Tryz.pinned (.plain (OpenSpec.upto logpipeSoundSpec)) logpipeSoundUptoCard

/-- THE SECOND FORM's CARD OF 'lookoutlaw37.LogpipeComposes'. -/
def logpipeComposesUptoCard : Claim7 := { stood := { row := logpipeComposesUptoRow, standIns := [], harness := (true, "1aa10966e160d4392c4c909022cfbf74ff77efe6534c4e71f1a2a0beb2ef0ea0"), looks := true }, kinds := [], alts := [], laidByText := true, laidKinds := [.data, .pinned], laidTests := true, laidLooks := .later }
def LogpipeComposesUptoCardSaid : Prop := Claim7.holds Tryz.pinned (.plain (OpenSpec.upto logpipeComposesSpec)) logpipeComposesUptoCard

/-- THE SECOND FORM's CARD OF 'lookoutlaw37.LogpipeFilters'. -/
def logpipeFiltersUptoCard : Claim7 := { stood := { row := logpipeFiltersUptoRow, standIns := [], harness := (true, "1aa10966e160d4392c4c909022cfbf74ff77efe6534c4e71f1a2a0beb2ef0ea0"), looks := true }, kinds := [], alts := [], laidByText := true, laidKinds := [.data, .pinned], laidTests := true, laidLooks := .later }
def LogpipeFiltersUptoCardSaid : Prop := Claim7.holds Tryz.pinned (.plain (OpenSpec.upto logpipeFiltersSpec)) logpipeFiltersUptoCard

/-- THE SECOND FORM's CARD OF 'lookoutlaw37.LogpipeRun'. -/
def logpipeRunUptoCard : Claim7 := { stood := { row := logpipeRunUptoRow, standIns := [], harness := (true, "1aa10966e160d4392c4c909022cfbf74ff77efe6534c4e71f1a2a0beb2ef0ea0"), looks := true }, kinds := [], alts := [], laidByText := true, laidKinds := [.data, .data, .data, .data, .sentinel, .sentinel, .pinned], laidTests := true, laidLooks := .later }
def LogpipeRunUptoCardSaid : Prop := Claim7.holds Tryz.pinned (.plain (OpenSpec.upto logpipeRunSpec)) logpipeRunUptoCard
end Rows
end Go.Proofs.YtmohgegpcfkooaaGreatDoor

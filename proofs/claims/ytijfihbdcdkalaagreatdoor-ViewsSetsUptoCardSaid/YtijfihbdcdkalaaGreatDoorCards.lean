/-
  DERIVED. GIVEN WITH THE SEED: THE CARDS: each row of YtijfihbdcdkalaaGreatDoorRows.lean that lists a variable, with what it lists TIED to the program's text (the seventh form; the later family's looks); each row that meets fmt, with fmt's text TOLD by the authors' own Lean function (tested against real Go, not proved from fmt's source: count such statements apart). THE CARD IS WHAT COUNTS. Prove the row's statement (the work); the ties are given (YtijfihbdcdkalaaGreatDoorTie.lean); close each card by the builder's one call (the guide's Derived/Test/ToyasCard.lean, 'card_holds'). Laid BY PROGRAM, IN A SANDBOX (cutbox-door.mjs). By AI agents, Wed Nov 11 2026. No macro, syntax, notation, axiom, sorry.
-/
import Derived.Test.YtijfihbdcdkalaaGreatDoorRows
import GoSem.ClaimSeven
namespace Go.Proofs.YtijfihbdcdkalaaGreatDoor
namespace Rows

/-- THE TIED CARD OF 'lookoutlaw46.ViewsExpand'. -/
def viewsExpandCard : Claim7 := { stood := { row := viewsExpandRow, standIns := [], harness := (true, "d630f60e291270441d18116936e902c15ada3b98654d40159c4eac8583afe9ec"), looks := false }, kinds := [], alts := [], laidByText := true, laidKinds := [.listed, .data], laidTests := true, laidLooks := .later }
def ViewsExpandCardSaid : Prop := Claim7.holds Tryz.pinned (.plain (OpenSpec.ofChange viewsExpandSpec)) viewsExpandCard

/-- THE TIED CARD OF 'lookoutlaw46.ViewsSubstitutes'. -/
def viewsSubstitutesCard : Claim7 := { stood := { row := viewsSubstitutesRow, standIns := [], harness := (true, "d630f60e291270441d18116936e902c15ada3b98654d40159c4eac8583afe9ec"), looks := false }, kinds := [], alts := [], laidByText := true, laidKinds := [.listed, .data], laidTests := true, laidLooks := .later }
def ViewsSubstitutesCardSaid : Prop := Claim7.holds Tryz.pinned (.plain (OpenSpec.ofChange viewsSubstitutesSpec)) viewsSubstitutesCard

/-- THE TIED CARD OF 'lookoutlaw46.ViewsExpanded'. -/
def viewsExpandedCard : Claim7 := { stood := { row := viewsExpandedRow, standIns := [], harness := (true, "d630f60e291270441d18116936e902c15ada3b98654d40159c4eac8583afe9ec"), looks := false }, kinds := [], alts := [], laidByText := true, laidKinds := [.listed, .data], laidTests := true, laidLooks := .later }
def ViewsExpandedCardSaid : Prop := Claim7.holds Tryz.pinned (.plain (OpenSpec.ofChange viewsExpandedSpec)) viewsExpandedCard

/-- THE TIED CARD OF 'lookoutlaw46.ViewsOrders'. -/
def viewsOrdersCard : Claim7 := { stood := { row := viewsOrdersRow, standIns := [], harness := (true, "d630f60e291270441d18116936e902c15ada3b98654d40159c4eac8583afe9ec"), looks := false }, kinds := [], alts := [], laidByText := true, laidKinds := [.listed, .data], laidTests := true, laidLooks := .later }
def ViewsOrdersCardSaid : Prop := Claim7.holds Tryz.pinned (.plain (OpenSpec.ofChange viewsOrdersSpec)) viewsOrdersCard

/-- THE TIED CARD OF 'lookoutlaw46.ViewsUses'. -/
def viewsUsesCard : Claim7 := { stood := { row := viewsUsesRow, standIns := [], harness := (true, "d630f60e291270441d18116936e902c15ada3b98654d40159c4eac8583afe9ec"), looks := false }, kinds := [], alts := [], laidByText := true, laidKinds := [.listed, .data], laidTests := true, laidLooks := .later }
def ViewsUsesCardSaid : Prop := Claim7.holds Tryz.pinned (.plain (OpenSpec.ofChange viewsUsesSpec)) viewsUsesCard

/-- THE TIED CARD OF 'lookoutlaw46.ViewsCheck'. -/
def viewsCheckCard : Claim7 := { stood := { row := viewsCheckRow, standIns := [], harness := (true, "d630f60e291270441d18116936e902c15ada3b98654d40159c4eac8583afe9ec"), looks := false }, kinds := [], alts := [], laidByText := true, laidKinds := [.listed, .data], laidTests := true, laidLooks := .later }
def ViewsCheckCardSaid : Prop := Claim7.holds Tryz.pinned (.plain (OpenSpec.ofChange viewsCheckSpec)) viewsCheckCard

/-- THE TIED CARD OF 'lookoutlaw46.ViewsSets'. -/
def viewsSetsCard : Claim7 := { stood := { row := viewsSetsRow, standIns := [], harness := (true, "d630f60e291270441d18116936e902c15ada3b98654d40159c4eac8583afe9ec"), looks := false }, kinds := [], alts := [], laidByText := true, laidKinds := [.listed, .data], laidTests := true, laidLooks := .later }
def ViewsSetsCardSaid : Prop := Claim7.holds Tryz.pinned (.plain (OpenSpec.ofChange viewsSetsSpec)) viewsSetsCard

/-- THE TIED CARD OF 'lookoutlaw58.ExplainMore'. -/
def explainMoreCard : Claim7 := { stood := { row := explainMoreRow, standIns := [], harness := (true, "d630f60e291270441d18116936e902c15ada3b98654d40159c4eac8583afe9ec"), looks := false }, kinds := [], alts := [], laidByText := true, laidKinds := [.listed, .data], laidTests := true, laidLooks := .later }
def ExplainMoreCardSaid : Prop := Claim7.holds Tryz.pinned (.plain (OpenSpec.ofChange explainMoreSpec)) explainMoreCard

/-- THE TIED CARD OF 'lookoutlaw58.ExplainUses'. -/
def explainUsesCard : Claim7 := { stood := { row := explainUsesRow, standIns := [], harness := (true, "d630f60e291270441d18116936e902c15ada3b98654d40159c4eac8583afe9ec"), looks := false }, kinds := [], alts := [], laidByText := true, laidKinds := [.listed, .data], laidTests := true, laidLooks := .later }
def ExplainUsesCardSaid : Prop := Claim7.holds Tryz.pinned (.plain (OpenSpec.ofChange explainUsesSpec)) explainUsesCard

/-- THE SECOND FORM's CARD OF 'lookoutlaw46.ViewsExpand'. -/
def viewsExpandUptoCard : Claim7 := { stood := { row := viewsExpandUptoRow, standIns := [], harness := (true, "d630f60e291270441d18116936e902c15ada3b98654d40159c4eac8583afe9ec"), looks := false }, kinds := [], alts := [], laidByText := true, laidKinds := [.listed, .data], laidTests := true, laidLooks := .later }
def ViewsExpandUptoCardSaid : Prop := Claim7.holds Tryz.pinned (.plain (OpenSpec.upto viewsExpandSpec)) viewsExpandUptoCard

/-- THE SECOND FORM's CARD OF 'lookoutlaw46.ViewsSubstitutes'. -/
def viewsSubstitutesUptoCard : Claim7 := { stood := { row := viewsSubstitutesUptoRow, standIns := [], harness := (true, "d630f60e291270441d18116936e902c15ada3b98654d40159c4eac8583afe9ec"), looks := false }, kinds := [], alts := [], laidByText := true, laidKinds := [.listed, .data], laidTests := true, laidLooks := .later }
def ViewsSubstitutesUptoCardSaid : Prop := Claim7.holds Tryz.pinned (.plain (OpenSpec.upto viewsSubstitutesSpec)) viewsSubstitutesUptoCard

/-- THE SECOND FORM's CARD OF 'lookoutlaw46.ViewsExpanded'. -/
def viewsExpandedUptoCard : Claim7 := { stood := { row := viewsExpandedUptoRow, standIns := [], harness := (true, "d630f60e291270441d18116936e902c15ada3b98654d40159c4eac8583afe9ec"), looks := false }, kinds := [], alts := [], laidByText := true, laidKinds := [.listed, .data], laidTests := true, laidLooks := .later }
def ViewsExpandedUptoCardSaid : Prop := Claim7.holds Tryz.pinned (.plain (OpenSpec.upto viewsExpandedSpec)) viewsExpandedUptoCard

/-- THE SECOND FORM's CARD OF 'lookoutlaw46.ViewsOrders'. -/
def viewsOrdersUptoCard : Claim7 := { stood := { row := viewsOrdersUptoRow, standIns := [], harness := (true, "d630f60e291270441d18116936e902c15ada3b98654d40159c4eac8583afe9ec"), looks := false }, kinds := [], alts := [], laidByText := true, laidKinds := [.listed, .data], laidTests := true, laidLooks := .later }
def ViewsOrdersUptoCardSaid : Prop := Claim7.holds Tryz.pinned (.plain (OpenSpec.upto viewsOrdersSpec)) viewsOrdersUptoCard

/-- THE SECOND FORM's CARD OF 'lookoutlaw46.ViewsUses'. -/
def viewsUsesUptoCard : Claim7 := { stood := { row := viewsUsesUptoRow, standIns := [], harness := (true, "d630f60e291270441d18116936e902c15ada3b98654d40159c4eac8583afe9ec"), looks := false }, kinds := [], alts := [], laidByText := true, laidKinds := [.listed, .data], laidTests := true, laidLooks := .later }
def ViewsUsesUptoCardSaid : Prop := Claim7.holds Tryz.pinned (.plain (OpenSpec.upto viewsUsesSpec)) viewsUsesUptoCard

/-- THE SECOND FORM's CARD OF 'lookoutlaw46.ViewsCheck'. -/
def viewsCheckUptoCard : Claim7 := { stood := { row := viewsCheckUptoRow, standIns := [], harness := (true, "d630f60e291270441d18116936e902c15ada3b98654d40159c4eac8583afe9ec"), looks := false }, kinds := [], alts := [], laidByText := true, laidKinds := [.listed, .data], laidTests := true, laidLooks := .later }
def ViewsCheckUptoCardSaid : Prop := Claim7.holds Tryz.pinned (.plain (OpenSpec.upto viewsCheckSpec)) viewsCheckUptoCard

/-- THE SECOND FORM's CARD OF 'lookoutlaw46.ViewsSets'. -/
def viewsSetsUptoCard : Claim7 := { stood := { row := viewsSetsUptoRow, standIns := [], harness := (true, "d630f60e291270441d18116936e902c15ada3b98654d40159c4eac8583afe9ec"), looks := false }, kinds := [], alts := [], laidByText := true, laidKinds := [.listed, .data], laidTests := true, laidLooks := .later }
def ViewsSetsUptoCardSaid : Prop := Claim7.holds Tryz.pinned (.plain (OpenSpec.upto viewsSetsSpec)) viewsSetsUptoCard

/-- THE SECOND FORM's CARD OF 'lookoutlaw58.ExplainMore'. -/
def explainMoreUptoCard : Claim7 := { stood := { row := explainMoreUptoRow, standIns := [], harness := (true, "d630f60e291270441d18116936e902c15ada3b98654d40159c4eac8583afe9ec"), looks := false }, kinds := [], alts := [], laidByText := true, laidKinds := [.listed, .data], laidTests := true, laidLooks := .later }
def ExplainMoreUptoCardSaid : Prop := Claim7.holds Tryz.pinned (.plain (OpenSpec.upto explainMoreSpec)) explainMoreUptoCard

/-- THE SECOND FORM's CARD OF 'lookoutlaw58.ExplainUses'. -/
def explainUsesUptoCard : Claim7 := { stood := { row := explainUsesUptoRow, standIns := [], harness := (true, "d630f60e291270441d18116936e902c15ada3b98654d40159c4eac8583afe9ec"), looks := false }, kinds := [], alts := [], laidByText := true, laidKinds := [.listed, .data], laidTests := true, laidLooks := .later }
def ExplainUsesUptoCardSaid : Prop := Claim7.holds Tryz.pinned (.plain (OpenSpec.upto explainUsesSpec)) explainUsesUptoCard
end Rows
end Go.Proofs.YtijfihbdcdkalaaGreatDoor

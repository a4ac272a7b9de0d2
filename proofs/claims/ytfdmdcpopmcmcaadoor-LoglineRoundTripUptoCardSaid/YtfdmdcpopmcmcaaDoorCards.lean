/-
  DERIVED. GIVEN WITH THE SEED: THE CARDS: each row of YtfdmdcpopmcmcaaDoorRows.lean that lists a variable, with what it lists TIED to the program's text (the seventh form; the later family's looks); each row that meets fmt, with fmt's text TOLD by the authors' own Lean function (tested against real Go, not proved from fmt's source: count such statements apart). THE CARD IS WHAT COUNTS. Prove the row's statement (the work); the ties are given (YtfdmdcpopmcmcaaDoorTie.lean); close each card by the builder's one call (the guide's Derived/Test/ToyasCard.lean, 'card_holds'). Laid BY PROGRAM, IN A SANDBOX (cutbox-door.mjs). By AI agents, Wed Nov 11 2026. No macro, syntax, notation, axiom, sorry.
-/
import Derived.Test.YtfdmdcpopmcmcaaDoorRows
import GoSem.ClaimSeven
namespace Go.Proofs.YtfdmdcpopmcmcaaDoor
namespace Rows

/-- THE TIED CARD OF 'lookoutlaw14.LoglineRoundTrip'. -/
def loglineRoundTripCard : Claim7 := { stood := { row := loglineRoundTripRow, standIns := [], harness := (true, "0fd1bceff5a6d4c9aca018d5b689f90ead480e55b51ca2fe425d3a46ce7e83bd"), looks := false }, kinds := [], alts := [], laidByText := true, laidKinds := [.data, .pinned], laidTests := true, laidLooks := .later }
def LoglineRoundTripCardSaid : Prop := Claim7.holds Tryd.pinned (.plain (OpenSpec.ofChange loglineRoundTripSpec)) loglineRoundTripCard

/-- THE TIED CARD OF 'lookoutlaw14.LoglineReads'. -/
def loglineReadsCard : Claim7 := { stood := { row := loglineReadsRow, standIns := [], harness := (true, "0fd1bceff5a6d4c9aca018d5b689f90ead480e55b51ca2fe425d3a46ce7e83bd"), looks := false }, kinds := [], alts := [], laidByText := true, laidKinds := [.data, .pinned], laidTests := true, laidLooks := .later }
def LoglineReadsCardSaid : Prop := Claim7.holds Tryd.pinned (.plain (OpenSpec.ofChange loglineReadsSpec)) loglineReadsCard

/-- THE TIED CARD OF 'lookoutlaw14.LoglineTerms'. -/
def loglineTermsCard : Claim7 := { stood := { row := loglineTermsRow, standIns := [], harness := (true, "0fd1bceff5a6d4c9aca018d5b689f90ead480e55b51ca2fe425d3a46ce7e83bd"), looks := false }, kinds := [], alts := [], laidByText := true, laidKinds := [.data, .pinned], laidTests := true, laidLooks := .later }
def LoglineTermsCardSaid : Prop := Claim7.holds Tryd.pinned (.plain (OpenSpec.ofChange loglineTermsSpec)) loglineTermsCard

/-- THE SECOND FORM's CARD OF 'lookoutlaw14.LoglineRoundTrip'. -/
def loglineRoundTripUptoCard : Claim7 := { stood := { row := loglineRoundTripUptoRow, standIns := [], harness := (true, "0fd1bceff5a6d4c9aca018d5b689f90ead480e55b51ca2fe425d3a46ce7e83bd"), looks := false }, kinds := [], alts := [], laidByText := true, laidKinds := [.data, .pinned], laidTests := true, laidLooks := .later }
def LoglineRoundTripUptoCardSaid : Prop := Claim7.holds Tryd.pinned (.plain (OpenSpec.upto loglineRoundTripSpec)) loglineRoundTripUptoCard

/-- THE SECOND FORM's CARD OF 'lookoutlaw14.LoglineReads'. -/
def loglineReadsUptoCard : Claim7 := { stood := { row := loglineReadsUptoRow, standIns := [], harness := (true, "0fd1bceff5a6d4c9aca018d5b689f90ead480e55b51ca2fe425d3a46ce7e83bd"), looks := false }, kinds := [], alts := [], laidByText := true, laidKinds := [.data, .pinned], laidTests := true, laidLooks := .later }
def LoglineReadsUptoCardSaid : Prop := Claim7.holds Tryd.pinned (.plain (OpenSpec.upto loglineReadsSpec)) loglineReadsUptoCard

/-- THE SECOND FORM's CARD OF 'lookoutlaw14.LoglineTerms'. -/
def loglineTermsUptoCard : Claim7 := { stood := { row := loglineTermsUptoRow, standIns := [], harness := (true, "0fd1bceff5a6d4c9aca018d5b689f90ead480e55b51ca2fe425d3a46ce7e83bd"), looks := false }, kinds := [], alts := [], laidByText := true, laidKinds := [.data, .pinned], laidTests := true, laidLooks := .later }
def LoglineTermsUptoCardSaid : Prop := Claim7.holds Tryd.pinned (.plain (OpenSpec.upto loglineTermsSpec)) loglineTermsUptoCard
end Rows
end Go.Proofs.YtfdmdcpopmcmcaaDoor

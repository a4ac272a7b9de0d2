/-
  DERIVED. GIVEN WITH THE SEED: THE CARDS: each row of YtonbppofjlpklaaGreatDoorRows.lean that lists a variable, with what it lists TIED to the program's text (the seventh form; the later family's looks); each row that meets fmt, with fmt's text TOLD by the authors' own Lean function (tested against real Go, not proved from fmt's source: count such statements apart). THE CARD IS WHAT COUNTS. Prove the row's statement (the work); the ties are given (YtonbppofjlpklaaGreatDoorTie.lean); close each card by the builder's one call (the guide's Derived/Test/ToyasCard.lean, 'card_holds'). Laid BY PROGRAM, IN A SANDBOX (cutbox-door.mjs). By AI agents, Wed Nov 11 2026. No macro, syntax, notation, axiom, sorry.
-/
import Derived.Test.YtonbppofjlpklaaGreatDoorRows
import GoSem.ClaimSeven
namespace Go.Proofs.YtonbppofjlpklaaGreatDoor
namespace Rows

/-- THE TIED CARD OF 'lookoutlaw40.CorrelateOrder'. -/
def correlateOrderCard : Claim7 := { stood := { row := correlateOrderRow, standIns := [], harness := (true, "ff164044eeb3a6e8b75913a16e3b24480df7d8f50fd9f8391acbf81b3efd6ed6"), looks := false }, kinds := [], alts := [], laidByText := true, laidKinds := [.data, .listed, .data, .pinned], laidTests := true, laidLooks := .later }
def CorrelateOrderCardSaid : Prop := Claim7.holds Tryz.pinned (.plain (OpenSpec.ofChange correlateOrderSpec)) correlateOrderCard

/-- THE TIED CARD OF 'lookoutlaw40.CorrelateCheck'. -/
def correlateCheckCard : Claim7 := { stood := { row := correlateCheckRow, standIns := [], harness := (true, "ff164044eeb3a6e8b75913a16e3b24480df7d8f50fd9f8391acbf81b3efd6ed6"), looks := false }, kinds := [], alts := [], laidByText := true, laidKinds := [.data, .listed, .data, .pinned], laidTests := true, laidLooks := .later }
def CorrelateCheckCardSaid : Prop := Claim7.holds Tryz.pinned (.plain (OpenSpec.ofChange correlateCheckSpec)) correlateCheckCard

/-- THE SECOND FORM's CARD OF 'lookoutlaw40.CorrelateOrder'. -/
def correlateOrderUptoCard : Claim7 := { stood := { row := correlateOrderUptoRow, standIns := [], harness := (true, "ff164044eeb3a6e8b75913a16e3b24480df7d8f50fd9f8391acbf81b3efd6ed6"), looks := false }, kinds := [], alts := [], laidByText := true, laidKinds := [.data, .listed, .data, .pinned], laidTests := true, laidLooks := .later }
def CorrelateOrderUptoCardSaid : Prop := Claim7.holds Tryz.pinned (.plain (OpenSpec.upto correlateOrderSpec)) correlateOrderUptoCard

/-- THE SECOND FORM's CARD OF 'lookoutlaw40.CorrelateCheck'. -/
def correlateCheckUptoCard : Claim7 := { stood := { row := correlateCheckUptoRow, standIns := [], harness := (true, "ff164044eeb3a6e8b75913a16e3b24480df7d8f50fd9f8391acbf81b3efd6ed6"), looks := false }, kinds := [], alts := [], laidByText := true, laidKinds := [.data, .listed, .data, .pinned], laidTests := true, laidLooks := .later }
def CorrelateCheckUptoCardSaid : Prop := Claim7.holds Tryz.pinned (.plain (OpenSpec.upto correlateCheckSpec)) correlateCheckUptoCard
end Rows
end Go.Proofs.YtonbppofjlpklaaGreatDoor

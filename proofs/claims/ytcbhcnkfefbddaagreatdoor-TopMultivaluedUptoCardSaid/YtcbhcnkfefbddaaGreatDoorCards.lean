/-
  DERIVED. GIVEN WITH THE SEED: THE CARDS: each row of YtcbhcnkfefbddaaGreatDoorRows.lean that lists a variable, with what it lists TIED to the program's text (the seventh form; the later family's looks); each row that meets fmt, with fmt's text TOLD by the authors' own Lean function (tested against real Go, not proved from fmt's source: count such statements apart). THE CARD IS WHAT COUNTS. Prove the row's statement (the work); the ties are given (YtcbhcnkfefbddaaGreatDoorTie.lean); close each card by the builder's one call (the guide's Derived/Test/ToyasCard.lean, 'card_holds'). Laid BY PROGRAM, IN A SANDBOX (cutbox-door.mjs). By AI agents, Wed Nov 11 2026. No macro, syntax, notation, axiom, sorry.
-/
import Derived.Test.YtcbhcnkfefbddaaGreatDoorRows
import GoSem.ClaimSeven
namespace Go.Proofs.YtcbhcnkfefbddaaGreatDoor
namespace Rows

/-- THE TIED CARD OF 'drosstop.TopMultivalued'. -/
def topMultivaluedCard : Claim7 := { stood := { row := topMultivaluedRow, standIns := [], harness := (true, "61fffbf62ff8fbaf522b511f7fb9ceaf6ebb2e6a6f6f40e1a18b1ce695808ab5"), looks := false }, kinds := [], alts := [], laidByText := true, laidKinds := [.data], laidTests := true, laidLooks := .later }
def TopMultivaluedCardSaid : Prop := Claim7.holds Tryz.pinned (.plain (OpenSpec.ofChange topMultivaluedSpec)) topMultivaluedCard

/-- THE SECOND FORM's CARD OF 'drosstop.TopMultivalued'. -/
def topMultivaluedUptoCard : Claim7 := { stood := { row := topMultivaluedUptoRow, standIns := [], harness := (true, "61fffbf62ff8fbaf522b511f7fb9ceaf6ebb2e6a6f6f40e1a18b1ce695808ab5"), looks := false }, kinds := [], alts := [], laidByText := true, laidKinds := [.data], laidTests := true, laidLooks := .later }
def TopMultivaluedUptoCardSaid : Prop := Claim7.holds Tryz.pinned (.plain (OpenSpec.upto topMultivaluedSpec)) topMultivaluedUptoCard
end Rows
end Go.Proofs.YtcbhcnkfefbddaaGreatDoor

/-
  DERIVED. GIVEN WITH THE SEED: THE CARDS: each row of YtockohmmmlhhfabGreatDoorRows.lean that lists a variable, with what it lists TIED to the program's text (the seventh form; the later family's looks); each row that meets fmt, with fmt's text TOLD by the authors' own Lean function (tested against real Go, not proved from fmt's source: count such statements apart). THE CARD IS WHAT COUNTS. Prove the row's statement (the work); the ties are given (YtockohmmmlhhfabGreatDoorTie.lean); close each card by the builder's one call (the guide's Derived/Test/ToyasCard.lean, 'card_holds'). Laid BY PROGRAM, IN A SANDBOX (cutbox-door.mjs). By AI agents, Wed Nov 11 2026. No macro, syntax, notation, axiom, sorry.
-/
import Derived.Test.YtockohmmmlhhfabGreatDoorRows
import GoSem.ClaimSeven
namespace Go.Proofs.YtockohmmmlhhfabGreatDoor
namespace Rows

/-- THE TIED CARD OF 'drosstop.TopTranslations'. -/
def topTranslationsCard : Claim7 := { stood := { row := topTranslationsRow, standIns := [], harness := (true, "989f3dbcda1697e65916e74ca55351d17aa60f9650223898dd83786a48ecd6b0"), looks := false }, kinds := [], alts := [], laidByText := true, laidKinds := [.data], laidTests := true, laidLooks := .later }
def TopTranslationsCardSaid : Prop := Claim7.holds Tryz.pinned (.plain (OpenSpec.ofChange topTranslationsSpec)) topTranslationsCard

/-- THE SECOND FORM's CARD OF 'drosstop.TopTranslations'. -/
def topTranslationsUptoCard : Claim7 := { stood := { row := topTranslationsUptoRow, standIns := [], harness := (true, "989f3dbcda1697e65916e74ca55351d17aa60f9650223898dd83786a48ecd6b0"), looks := false }, kinds := [], alts := [], laidByText := true, laidKinds := [.data], laidTests := true, laidLooks := .later }
def TopTranslationsUptoCardSaid : Prop := Claim7.holds Tryz.pinned (.plain (OpenSpec.upto topTranslationsSpec)) topTranslationsUptoCard
end Rows
end Go.Proofs.YtockohmmmlhhfabGreatDoor

/-
  DERIVED. GIVEN WITH THE SEED: THE CARDS: each row of YtockohmmmlhhfadGreatDoorRows.lean that lists a variable, with what it lists TIED to the program's text (the seventh form; the later family's looks); each row that meets fmt, with fmt's text TOLD by the authors' own Lean function (tested against real Go, not proved from fmt's source: count such statements apart). THE CARD IS WHAT COUNTS. Prove the row's statement (the work); the ties are given (YtockohmmmlhhfadGreatDoorTie.lean); close each card by the builder's one call (the guide's Derived/Test/ToyasCard.lean, 'card_holds'). Laid BY PROGRAM, IN A SANDBOX (cutbox-door.mjs). By AI agents, Wed Nov 11 2026. No macro, syntax, notation, axiom, sorry.
-/
import Derived.Test.YtockohmmmlhhfadGreatDoorRows
import GoSem.ClaimSeven
namespace Go.Proofs.YtockohmmmlhhfadGreatDoor
namespace Rows

/-- THE TIED CARD OF 'drosstop.TopPlain'. -/
def topPlainCard : Claim7 := { stood := { row := topPlainRow, standIns := [], harness := (true, "4f34aabf46eacad6c82a4cacf74d0a9e9ae79fa4b6bb5f2625acc86adc2017a9"), looks := false }, kinds := [], alts := [], laidByText := true, laidKinds := [.data], laidTests := true, laidLooks := .later }
def TopPlainCardSaid : Prop := Claim7.holds Tryz.pinned (.plain (OpenSpec.ofChange topPlainSpec)) topPlainCard

/-- THE SECOND FORM's CARD OF 'drosstop.TopPlain'. -/
def topPlainUptoCard : Claim7 := { stood := { row := topPlainUptoRow, standIns := [], harness := (true, "4f34aabf46eacad6c82a4cacf74d0a9e9ae79fa4b6bb5f2625acc86adc2017a9"), looks := false }, kinds := [], alts := [], laidByText := true, laidKinds := [.data], laidTests := true, laidLooks := .later }
def TopPlainUptoCardSaid : Prop := Claim7.holds Tryz.pinned (.plain (OpenSpec.upto topPlainSpec)) topPlainUptoCard
end Rows
end Go.Proofs.YtockohmmmlhhfadGreatDoor

/-
  DERIVED. GIVEN WITH THE SEED: THE CARDS: each row of YtjiphhbagdangabGreatDoorRows.lean that lists a variable, with what it lists TIED to the program's text (the seventh form; the later family's looks); each row that meets fmt, with fmt's text TOLD by the authors' own Lean function (tested against real Go, not proved from fmt's source: count such statements apart). THE CARD IS WHAT COUNTS. Prove the row's statement (the work); the ties are given (YtjiphhbagdangabGreatDoorTie.lean); close each card by the builder's one call (the guide's Derived/Test/ToyasCard.lean, 'card_holds'). Laid BY PROGRAM, IN A SANDBOX (cutbox-door.mjs). By AI agents, Wed Nov 11 2026. No macro, syntax, notation, axiom, sorry.
-/
import Derived.Test.YtjiphhbagdangabGreatDoorRows
import GoSem.ClaimSeven
namespace Go.Proofs.YtjiphhbagdangabGreatDoor
namespace Rows

/-- THE TIED CARD OF 'drosslaw19.ArmstrongHolds'. -/
def armstrongHoldsCard : Claim7 := { stood := { row := armstrongHoldsRow, standIns := [], harness := (true, "96a65ddcd46c3c8d2527a783ae4a8dbb38f6041049a4a825ac57bcee0a570914"), looks := false }, kinds := [], alts := [], laidByText := true, laidKinds := [.data], laidTests := true, laidLooks := .later }
def ArmstrongHoldsCardSaid : Prop := Claim7.holds Tryz.pinned (.plain (OpenSpec.ofChange armstrongHoldsSpec)) armstrongHoldsCard

/-- THE TIED CARD OF 'drosslaw19.ArmstrongLeast'. -/
def armstrongLeastCard : Claim7 := { stood := { row := armstrongLeastRow, standIns := [], harness := (true, "96a65ddcd46c3c8d2527a783ae4a8dbb38f6041049a4a825ac57bcee0a570914"), looks := false }, kinds := [], alts := [], laidByText := true, laidKinds := [.data], laidTests := true, laidLooks := .later }
def ArmstrongLeastCardSaid : Prop := Claim7.holds Tryz.pinned (.plain (OpenSpec.ofChange armstrongLeastSpec)) armstrongLeastCard

/-- THE SECOND FORM's CARD OF 'drosslaw19.ArmstrongHolds'. -/
def armstrongHoldsUptoCard : Claim7 := { stood := { row := armstrongHoldsUptoRow, standIns := [], harness := (true, "96a65ddcd46c3c8d2527a783ae4a8dbb38f6041049a4a825ac57bcee0a570914"), looks := false }, kinds := [], alts := [], laidByText := true, laidKinds := [.data], laidTests := true, laidLooks := .later }
def ArmstrongHoldsUptoCardSaid : Prop := Claim7.holds Tryz.pinned (.plain (OpenSpec.upto armstrongHoldsSpec)) armstrongHoldsUptoCard

/-- THE SECOND FORM's CARD OF 'drosslaw19.ArmstrongLeast'. -/
def armstrongLeastUptoCard : Claim7 := { stood := { row := armstrongLeastUptoRow, standIns := [], harness := (true, "96a65ddcd46c3c8d2527a783ae4a8dbb38f6041049a4a825ac57bcee0a570914"), looks := false }, kinds := [], alts := [], laidByText := true, laidKinds := [.data], laidTests := true, laidLooks := .later }
def ArmstrongLeastUptoCardSaid : Prop := Claim7.holds Tryz.pinned (.plain (OpenSpec.upto armstrongLeastSpec)) armstrongLeastUptoCard
end Rows
end Go.Proofs.YtjiphhbagdangabGreatDoor

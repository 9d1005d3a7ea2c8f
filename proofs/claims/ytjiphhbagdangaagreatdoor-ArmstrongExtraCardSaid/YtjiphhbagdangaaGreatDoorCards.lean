/-
  DERIVED. GIVEN WITH THE SEED: THE CARDS: each row of YtjiphhbagdangaaGreatDoorRows.lean that lists a variable, with what it lists TIED to the program's text (the seventh form; the later family's looks); each row that meets fmt, with fmt's text TOLD by the authors' own Lean function (tested against real Go, not proved from fmt's source: count such statements apart). THE CARD IS WHAT COUNTS. Prove the row's statement (the work); the ties are given (YtjiphhbagdangaaGreatDoorTie.lean); close each card by the builder's one call (the guide's Derived/Test/ToyasCard.lean, 'card_holds'). Laid BY PROGRAM, IN A SANDBOX (cutbox-door.mjs). By AI agents, Wed Nov 11 2026. No macro, syntax, notation, axiom, sorry.
-/
import Derived.Test.YtjiphhbagdangaaGreatDoorRows
import GoSem.ClaimSeven
namespace Go.Proofs.YtjiphhbagdangaaGreatDoor
namespace Rows

/-- THE TIED CARD OF 'drosslaw19.ArmstrongExtra'. -/
def armstrongExtraCard : Claim7 := { stood := { row := armstrongExtraRow, standIns := [], harness := (true, "7620e3d4429894526eda6afc39d96068f2639a1252ec64eec0a93cea1db1e31a"), looks := false }, kinds := [], alts := [], laidByText := true, laidKinds := [.data], laidTests := true, laidLooks := .later }
def ArmstrongExtraCardSaid : Prop := Claim7.holds Tryz.pinned (.plain (OpenSpec.ofChange armstrongExtraSpec)) armstrongExtraCard

/-- THE TIED CARD OF 'drosslaw19.ArmstrongExact'. -/
def armstrongExactCard : Claim7 := { stood := { row := armstrongExactRow, standIns := [], harness := (true, "7620e3d4429894526eda6afc39d96068f2639a1252ec64eec0a93cea1db1e31a"), looks := false }, kinds := [], alts := [], laidByText := true, laidKinds := [.data], laidTests := true, laidLooks := .later }
def ArmstrongExactCardSaid : Prop := Claim7.holds Tryz.pinned (.plain (OpenSpec.ofChange armstrongExactSpec)) armstrongExactCard

/-- THE SECOND FORM's CARD OF 'drosslaw19.ArmstrongExtra'. -/
def armstrongExtraUptoCard : Claim7 := { stood := { row := armstrongExtraUptoRow, standIns := [], harness := (true, "7620e3d4429894526eda6afc39d96068f2639a1252ec64eec0a93cea1db1e31a"), looks := false }, kinds := [], alts := [], laidByText := true, laidKinds := [.data], laidTests := true, laidLooks := .later }
def ArmstrongExtraUptoCardSaid : Prop := Claim7.holds Tryz.pinned (.plain (OpenSpec.upto armstrongExtraSpec)) armstrongExtraUptoCard

/-- THE SECOND FORM's CARD OF 'drosslaw19.ArmstrongExact'. -/
def armstrongExactUptoCard : Claim7 := { stood := { row := armstrongExactUptoRow, standIns := [], harness := (true, "7620e3d4429894526eda6afc39d96068f2639a1252ec64eec0a93cea1db1e31a"), looks := false }, kinds := [], alts := [], laidByText := true, laidKinds := [.data], laidTests := true, laidLooks := .later }
def ArmstrongExactUptoCardSaid : Prop := Claim7.holds Tryz.pinned (.plain (OpenSpec.upto armstrongExactSpec)) armstrongExactUptoCard
end Rows
end Go.Proofs.YtjiphhbagdangaaGreatDoor

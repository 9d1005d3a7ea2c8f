/-
  DERIVED. GIVEN WITH THE SEED: THE CARDS: each row of YtfpooeoklmlepaaGreatDoorRows.lean that lists a variable, with what it lists TIED to the program's text (the seventh form; the later family's looks); each row that meets fmt, with fmt's text TOLD by the authors' own Lean function (tested against real Go, not proved from fmt's source: count such statements apart). THE CARD IS WHAT COUNTS. Prove the row's statement (the work); the ties are given (YtfpooeoklmlepaaGreatDoorTie.lean); close each card by the builder's one call (the guide's Derived/Test/ToyasCard.lean, 'card_holds'). Laid BY PROGRAM, IN A SANDBOX (cutbox-door.mjs). By AI agents, Wed Nov 11 2026. No macro, syntax, notation, axiom, sorry.
-/
import Derived.Test.YtfpooeoklmlepaaGreatDoorRows
import GoSem.ClaimSeven
namespace Go.Proofs.YtfpooeoklmlepaaGreatDoor
namespace Rows

/-- THE TIED CARD OF 'drosslaw42.TractableSolve'. -/
def tractableSolveCard : Claim7 := { stood := { row := tractableSolveRow, standIns := [], harness := (true, "2f57b30baadc1f80efe92cda1d1f89ec135b03f850efb3d5af3354009d4d9a7f"), looks := false }, kinds := [], alts := [], laidByText := true, laidKinds := [.data], laidTests := true, laidLooks := .later }
def TractableSolveCardSaid : Prop := Claim7.holds Tryz.pinned (.plain (OpenSpec.ofChange tractableSolveSpec)) tractableSolveCard

/-- THE TIED CARD OF 'drosslaw42.TractableErrors'. -/
def tractableErrorsCard : Claim7 := { stood := { row := tractableErrorsRow, standIns := [], harness := (true, "2f57b30baadc1f80efe92cda1d1f89ec135b03f850efb3d5af3354009d4d9a7f"), looks := false }, kinds := [], alts := [], laidByText := true, laidKinds := [.data], laidTests := true, laidLooks := .later }
def TractableErrorsCardSaid : Prop := Claim7.holds Tryz.pinned (.plain (OpenSpec.ofChange tractableErrorsSpec)) tractableErrorsCard

/-- THE TIED CARD OF 'drosslaw42.TractableEqual'. -/
def tractableEqualCard : Claim7 := { stood := { row := tractableEqualRow, standIns := [], harness := (true, "2f57b30baadc1f80efe92cda1d1f89ec135b03f850efb3d5af3354009d4d9a7f"), looks := false }, kinds := [], alts := [], laidByText := true, laidKinds := [.data], laidTests := true, laidLooks := .later }
def TractableEqualCardSaid : Prop := Claim7.holds Tryz.pinned (.plain (OpenSpec.ofChange tractableEqualSpec)) tractableEqualCard

/-- THE TIED CARD OF 'drosslaw42.TractableScaled'. -/
def tractableScaledCard : Claim7 := { stood := { row := tractableScaledRow, standIns := [], harness := (true, "2f57b30baadc1f80efe92cda1d1f89ec135b03f850efb3d5af3354009d4d9a7f"), looks := false }, kinds := [], alts := [], laidByText := true, laidKinds := [.data], laidTests := true, laidLooks := .later }
def TractableScaledCardSaid : Prop := Claim7.holds Tryz.pinned (.plain (OpenSpec.ofChange tractableScaledSpec)) tractableScaledCard

/-- THE SECOND FORM's CARD OF 'drosslaw42.TractableSolve'. -/
def tractableSolveUptoCard : Claim7 := { stood := { row := tractableSolveUptoRow, standIns := [], harness := (true, "2f57b30baadc1f80efe92cda1d1f89ec135b03f850efb3d5af3354009d4d9a7f"), looks := false }, kinds := [], alts := [], laidByText := true, laidKinds := [.data], laidTests := true, laidLooks := .later }
def TractableSolveUptoCardSaid : Prop := Claim7.holds Tryz.pinned (.plain (OpenSpec.upto tractableSolveSpec)) tractableSolveUptoCard

/-- THE SECOND FORM's CARD OF 'drosslaw42.TractableErrors'. -/
def tractableErrorsUptoCard : Claim7 := { stood := { row := tractableErrorsUptoRow, standIns := [], harness := (true, "2f57b30baadc1f80efe92cda1d1f89ec135b03f850efb3d5af3354009d4d9a7f"), looks := false }, kinds := [], alts := [], laidByText := true, laidKinds := [.data], laidTests := true, laidLooks := .later }
def TractableErrorsUptoCardSaid : Prop := Claim7.holds Tryz.pinned (.plain (OpenSpec.upto tractableErrorsSpec)) tractableErrorsUptoCard

/-- THE SECOND FORM's CARD OF 'drosslaw42.TractableEqual'. -/
def tractableEqualUptoCard : Claim7 := { stood := { row := tractableEqualUptoRow, standIns := [], harness := (true, "2f57b30baadc1f80efe92cda1d1f89ec135b03f850efb3d5af3354009d4d9a7f"), looks := false }, kinds := [], alts := [], laidByText := true, laidKinds := [.data], laidTests := true, laidLooks := .later }
def TractableEqualUptoCardSaid : Prop := Claim7.holds Tryz.pinned (.plain (OpenSpec.upto tractableEqualSpec)) tractableEqualUptoCard

/-- THE SECOND FORM's CARD OF 'drosslaw42.TractableScaled'. -/
def tractableScaledUptoCard : Claim7 := { stood := { row := tractableScaledUptoRow, standIns := [], harness := (true, "2f57b30baadc1f80efe92cda1d1f89ec135b03f850efb3d5af3354009d4d9a7f"), looks := false }, kinds := [], alts := [], laidByText := true, laidKinds := [.data], laidTests := true, laidLooks := .later }
def TractableScaledUptoCardSaid : Prop := Claim7.holds Tryz.pinned (.plain (OpenSpec.upto tractableScaledSpec)) tractableScaledUptoCard
end Rows
end Go.Proofs.YtfpooeoklmlepaaGreatDoor

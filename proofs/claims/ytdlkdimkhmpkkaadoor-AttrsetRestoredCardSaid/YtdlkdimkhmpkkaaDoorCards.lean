/-
  DERIVED. GIVEN WITH THE SEED: THE CARDS: each row of YtdlkdimkhmpkkaaDoorRows.lean that lists a variable, with what it lists TIED to the program's text (the seventh form; the later family's looks); each row that meets fmt, with fmt's text TOLD by the authors' own Lean function (tested against real Go, not proved from fmt's source: count such statements apart). THE CARD IS WHAT COUNTS. Prove the row's statement (the work); the ties are given (YtdlkdimkhmpkkaaDoorTie.lean); close each card by the builder's one call (the guide's Derived/Test/ToyasCard.lean, 'card_holds'). Laid BY PROGRAM, IN A SANDBOX (cutbox-door.mjs). By AI agents, Wed Nov 11 2026. No macro, syntax, notation, axiom, sorry.
-/
import Derived.Test.YtdlkdimkhmpkkaaDoorRows
import GoSem.ClaimSeven
namespace Go.Proofs.YtdlkdimkhmpkkaaDoor
namespace Rows

/-- THE TIED CARD OF 'drosslaw02.AttrsetOf'. -/
def attrsetOfCard : Claim7 := { stood := { row := attrsetOfRow, standIns := [], harness := (true, "5a586f4bf29b5b2e793de86a715bebb042b23d2ab1e948bd5dad1fdd54f118f1"), looks := false }, kinds := [], alts := [], laidByText := true, laidKinds := [.data, .data, .pinned], laidTests := true, laidLooks := .later }
def AttrsetOfCardSaid : Prop := Claim7.holds Tryd.pinned (.plain (OpenSpec.ofChange attrsetOfSpec)) attrsetOfCard

/-- THE TIED CARD OF 'drosslaw02.AttrsetRestored'. -/
def attrsetRestoredCard : Claim7 := { stood := { row := attrsetRestoredRow, standIns := [], harness := (true, "5a586f4bf29b5b2e793de86a715bebb042b23d2ab1e948bd5dad1fdd54f118f1"), looks := false }, kinds := [], alts := [], laidByText := true, laidKinds := [.data, .data, .pinned], laidTests := true, laidLooks := .later }
def AttrsetRestoredCardSaid : Prop := Claim7.holds Tryd.pinned (.plain (OpenSpec.ofChange attrsetRestoredSpec)) attrsetRestoredCard

/-- THE TIED CARD OF 'drosslaw02.AttrsetOrder'. -/
def attrsetOrderCard : Claim7 := { stood := { row := attrsetOrderRow, standIns := [], harness := (true, "5a586f4bf29b5b2e793de86a715bebb042b23d2ab1e948bd5dad1fdd54f118f1"), looks := false }, kinds := [], alts := [], laidByText := true, laidKinds := [.data, .data, .pinned], laidTests := true, laidLooks := .later }
def AttrsetOrderCardSaid : Prop := Claim7.holds Tryd.pinned (.plain (OpenSpec.ofChange attrsetOrderSpec)) attrsetOrderCard

/-- THE TIED CARD OF 'drosslaw02.AttrsetSubsets'. -/
def attrsetSubsetsCard : Claim7 := { stood := { row := attrsetSubsetsRow, standIns := [], harness := (true, "5a586f4bf29b5b2e793de86a715bebb042b23d2ab1e948bd5dad1fdd54f118f1"), looks := false }, kinds := [], alts := [], laidByText := true, laidKinds := [.data, .data, .pinned], laidTests := true, laidLooks := .later }
def AttrsetSubsetsCardSaid : Prop := Claim7.holds Tryd.pinned (.plain (OpenSpec.ofChange attrsetSubsetsSpec)) attrsetSubsetsCard

/-- THE TIED CARD OF 'drosslaw02.AttrsetLevel'. -/
def attrsetLevelCard : Claim7 := { stood := { row := attrsetLevelRow, standIns := [], harness := (true, "5a586f4bf29b5b2e793de86a715bebb042b23d2ab1e948bd5dad1fdd54f118f1"), looks := false }, kinds := [], alts := [], laidByText := true, laidKinds := [.data, .data, .pinned], laidTests := true, laidLooks := .later }
def AttrsetLevelCardSaid : Prop := Claim7.holds Tryd.pinned (.plain (OpenSpec.ofChange attrsetLevelSpec)) attrsetLevelCard

/-- THE TIED CARD OF 'drosslaw02.AttrsetLevels'. -/
def attrsetLevelsCard : Claim7 := { stood := { row := attrsetLevelsRow, standIns := [], harness := (true, "5a586f4bf29b5b2e793de86a715bebb042b23d2ab1e948bd5dad1fdd54f118f1"), looks := false }, kinds := [], alts := [], laidByText := true, laidKinds := [.data, .data, .pinned], laidTests := true, laidLooks := .later }
def AttrsetLevelsCardSaid : Prop := Claim7.holds Tryd.pinned (.plain (OpenSpec.ofChange attrsetLevelsSpec)) attrsetLevelsCard

/-- THE TIED CARD OF 'drosslaw02.AttrsetMinimal'. -/
def attrsetMinimalCard : Claim7 := { stood := { row := attrsetMinimalRow, standIns := [], harness := (true, "5a586f4bf29b5b2e793de86a715bebb042b23d2ab1e948bd5dad1fdd54f118f1"), looks := false }, kinds := [], alts := [], laidByText := true, laidKinds := [.data, .data, .pinned], laidTests := true, laidLooks := .later }
def AttrsetMinimalCardSaid : Prop := Claim7.holds Tryd.pinned (.plain (OpenSpec.ofChange attrsetMinimalSpec)) attrsetMinimalCard

/-- THE TIED CARD OF 'drosslaw02.AttrsetNames'. -/
def attrsetNamesCard : Claim7 := { stood := { row := attrsetNamesRow, standIns := [], harness := (true, "5a586f4bf29b5b2e793de86a715bebb042b23d2ab1e948bd5dad1fdd54f118f1"), looks := false }, kinds := [], alts := [], laidByText := true, laidKinds := [.data, .data, .pinned], laidTests := true, laidLooks := .later }
def AttrsetNamesCardSaid : Prop := Claim7.holds Tryd.pinned (.plain (OpenSpec.ofChange attrsetNamesSpec)) attrsetNamesCard

/-- THE TIED CARD OF 'drosslaw02.AttrsetNamed'. -/
def attrsetNamedCard : Claim7 := { stood := { row := attrsetNamedRow, standIns := [], harness := (true, "5a586f4bf29b5b2e793de86a715bebb042b23d2ab1e948bd5dad1fdd54f118f1"), looks := false }, kinds := [], alts := [], laidByText := true, laidKinds := [.data, .data, .pinned], laidTests := true, laidLooks := .later }
def AttrsetNamedCardSaid : Prop := Claim7.holds Tryd.pinned (.plain (OpenSpec.ofChange attrsetNamedSpec)) attrsetNamedCard

/-- THE SECOND FORM's CARD OF 'drosslaw02.AttrsetOf'. -/
def attrsetOfUptoCard : Claim7 := { stood := { row := attrsetOfUptoRow, standIns := [], harness := (true, "5a586f4bf29b5b2e793de86a715bebb042b23d2ab1e948bd5dad1fdd54f118f1"), looks := false }, kinds := [], alts := [], laidByText := true, laidKinds := [.data, .data, .pinned], laidTests := true, laidLooks := .later }
def AttrsetOfUptoCardSaid : Prop := Claim7.holds Tryd.pinned (.plain (OpenSpec.upto attrsetOfSpec)) attrsetOfUptoCard

/-- THE SECOND FORM's CARD OF 'drosslaw02.AttrsetRestored'. -/
def attrsetRestoredUptoCard : Claim7 := { stood := { row := attrsetRestoredUptoRow, standIns := [], harness := (true, "5a586f4bf29b5b2e793de86a715bebb042b23d2ab1e948bd5dad1fdd54f118f1"), looks := false }, kinds := [], alts := [], laidByText := true, laidKinds := [.data, .data, .pinned], laidTests := true, laidLooks := .later }
def AttrsetRestoredUptoCardSaid : Prop := Claim7.holds Tryd.pinned (.plain (OpenSpec.upto attrsetRestoredSpec)) attrsetRestoredUptoCard

/-- THE SECOND FORM's CARD OF 'drosslaw02.AttrsetOrder'. -/
def attrsetOrderUptoCard : Claim7 := { stood := { row := attrsetOrderUptoRow, standIns := [], harness := (true, "5a586f4bf29b5b2e793de86a715bebb042b23d2ab1e948bd5dad1fdd54f118f1"), looks := false }, kinds := [], alts := [], laidByText := true, laidKinds := [.data, .data, .pinned], laidTests := true, laidLooks := .later }
def AttrsetOrderUptoCardSaid : Prop := Claim7.holds Tryd.pinned (.plain (OpenSpec.upto attrsetOrderSpec)) attrsetOrderUptoCard

/-- THE SECOND FORM's CARD OF 'drosslaw02.AttrsetSubsets'. -/
def attrsetSubsetsUptoCard : Claim7 := { stood := { row := attrsetSubsetsUptoRow, standIns := [], harness := (true, "5a586f4bf29b5b2e793de86a715bebb042b23d2ab1e948bd5dad1fdd54f118f1"), looks := false }, kinds := [], alts := [], laidByText := true, laidKinds := [.data, .data, .pinned], laidTests := true, laidLooks := .later }
def AttrsetSubsetsUptoCardSaid : Prop := Claim7.holds Tryd.pinned (.plain (OpenSpec.upto attrsetSubsetsSpec)) attrsetSubsetsUptoCard

/-- THE SECOND FORM's CARD OF 'drosslaw02.AttrsetLevel'. -/
def attrsetLevelUptoCard : Claim7 := { stood := { row := attrsetLevelUptoRow, standIns := [], harness := (true, "5a586f4bf29b5b2e793de86a715bebb042b23d2ab1e948bd5dad1fdd54f118f1"), looks := false }, kinds := [], alts := [], laidByText := true, laidKinds := [.data, .data, .pinned], laidTests := true, laidLooks := .later }
def AttrsetLevelUptoCardSaid : Prop := Claim7.holds Tryd.pinned (.plain (OpenSpec.upto attrsetLevelSpec)) attrsetLevelUptoCard

/-- THE SECOND FORM's CARD OF 'drosslaw02.AttrsetLevels'. -/
def attrsetLevelsUptoCard : Claim7 := { stood := { row := attrsetLevelsUptoRow, standIns := [], harness := (true, "5a586f4bf29b5b2e793de86a715bebb042b23d2ab1e948bd5dad1fdd54f118f1"), looks := false }, kinds := [], alts := [], laidByText := true, laidKinds := [.data, .data, .pinned], laidTests := true, laidLooks := .later }
def AttrsetLevelsUptoCardSaid : Prop := Claim7.holds Tryd.pinned (.plain (OpenSpec.upto attrsetLevelsSpec)) attrsetLevelsUptoCard

/-- THE SECOND FORM's CARD OF 'drosslaw02.AttrsetMinimal'. -/
def attrsetMinimalUptoCard : Claim7 := { stood := { row := attrsetMinimalUptoRow, standIns := [], harness := (true, "5a586f4bf29b5b2e793de86a715bebb042b23d2ab1e948bd5dad1fdd54f118f1"), looks := false }, kinds := [], alts := [], laidByText := true, laidKinds := [.data, .data, .pinned], laidTests := true, laidLooks := .later }
def AttrsetMinimalUptoCardSaid : Prop := Claim7.holds Tryd.pinned (.plain (OpenSpec.upto attrsetMinimalSpec)) attrsetMinimalUptoCard

/-- THE SECOND FORM's CARD OF 'drosslaw02.AttrsetNames'. -/
def attrsetNamesUptoCard : Claim7 := { stood := { row := attrsetNamesUptoRow, standIns := [], harness := (true, "5a586f4bf29b5b2e793de86a715bebb042b23d2ab1e948bd5dad1fdd54f118f1"), looks := false }, kinds := [], alts := [], laidByText := true, laidKinds := [.data, .data, .pinned], laidTests := true, laidLooks := .later }
def AttrsetNamesUptoCardSaid : Prop := Claim7.holds Tryd.pinned (.plain (OpenSpec.upto attrsetNamesSpec)) attrsetNamesUptoCard

/-- THE SECOND FORM's CARD OF 'drosslaw02.AttrsetNamed'. -/
def attrsetNamedUptoCard : Claim7 := { stood := { row := attrsetNamedUptoRow, standIns := [], harness := (true, "5a586f4bf29b5b2e793de86a715bebb042b23d2ab1e948bd5dad1fdd54f118f1"), looks := false }, kinds := [], alts := [], laidByText := true, laidKinds := [.data, .data, .pinned], laidTests := true, laidLooks := .later }
def AttrsetNamedUptoCardSaid : Prop := Claim7.holds Tryd.pinned (.plain (OpenSpec.upto attrsetNamedSpec)) attrsetNamedUptoCard
end Rows
end Go.Proofs.YtdlkdimkhmpkkaaDoor

/-
  DERIVED. GIVEN WITH THE SEED: THE CARDS: each row of YtgclpapfgmckbaaDoorRows.lean that lists a variable, with what it lists TIED to the program's text (the seventh form; the later family's looks); each row that meets fmt, with fmt's text TOLD by the authors' own Lean function (tested against real Go, not proved from fmt's source: count such statements apart). THE CARD IS WHAT COUNTS. Prove the row's statement (the work); the ties are given (YtgclpapfgmckbaaDoorTie.lean); close each card by the builder's one call (the guide's Derived/Test/ToyasCard.lean, 'card_holds'). Laid BY PROGRAM, IN A SANDBOX (cutbox-door.mjs). By AI agents, Wed Nov 11 2026. No macro, syntax, notation, axiom, sorry.
-/
import Derived.Test.YtgclpapfgmckbaaDoorRows
import GoSem.ClaimSeven
namespace Go.Proofs.YtgclpapfgmckbaaDoor
namespace Rows

/-- THE TIED CARD OF 'drosslaw08.PartitionOf'. -/
def partitionOfCard : Claim7 := { stood := { row := partitionOfRow, standIns := [], harness := (true, "79bf6f88f08e5c9227f37f880ff2b953c7585f52fdc4f7e79df8c1ea6b5092c3"), looks := false }, kinds := [], alts := [], laidByText := true, laidKinds := [.data], laidTests := true, laidLooks := .later }
def PartitionOfCardSaid : Prop := Claim7.holds Tryd.pinned (.plain (OpenSpec.ofChange partitionOfSpec)) partitionOfCard

/-- THE TIED CARD OF 'drosslaw08.PartitionValid'. -/
def partitionValidCard : Claim7 := { stood := { row := partitionValidRow, standIns := [], harness := (true, "79bf6f88f08e5c9227f37f880ff2b953c7585f52fdc4f7e79df8c1ea6b5092c3"), looks := false }, kinds := [], alts := [], laidByText := true, laidKinds := [.data], laidTests := true, laidLooks := .later }
def PartitionValidCardSaid : Prop := Claim7.holds Tryd.pinned (.plain (OpenSpec.ofChange partitionValidSpec)) partitionValidCard

/-- THE TIED CARD OF 'drosslaw08.PartitionLaws'. -/
def partitionLawsCard : Claim7 := { stood := { row := partitionLawsRow, standIns := [], harness := (true, "79bf6f88f08e5c9227f37f880ff2b953c7585f52fdc4f7e79df8c1ea6b5092c3"), looks := false }, kinds := [], alts := [], laidByText := true, laidKinds := [.data], laidTests := true, laidLooks := .later }
def PartitionLawsCardSaid : Prop := Claim7.holds Tryd.pinned (.plain (OpenSpec.ofChange partitionLawsSpec)) partitionLawsCard

/-- THE TIED CARD OF 'drosslaw08.PartitionUnion'. -/
def partitionUnionCard : Claim7 := { stood := { row := partitionUnionRow, standIns := [], harness := (true, "79bf6f88f08e5c9227f37f880ff2b953c7585f52fdc4f7e79df8c1ea6b5092c3"), looks := false }, kinds := [], alts := [], laidByText := true, laidKinds := [.data], laidTests := true, laidLooks := .later }
def PartitionUnionCardSaid : Prop := Claim7.holds Tryd.pinned (.plain (OpenSpec.ofChange partitionUnionSpec)) partitionUnionCard

/-- THE TIED CARD OF 'drosslaw08.PartitionRemoval'. -/
def partitionRemovalCard : Claim7 := { stood := { row := partitionRemovalRow, standIns := [], harness := (true, "79bf6f88f08e5c9227f37f880ff2b953c7585f52fdc4f7e79df8c1ea6b5092c3"), looks := false }, kinds := [], alts := [], laidByText := true, laidKinds := [.data], laidTests := true, laidLooks := .later }
def PartitionRemovalCardSaid : Prop := Claim7.holds Tryd.pinned (.plain (OpenSpec.ofChange partitionRemovalSpec)) partitionRemovalCard

/-- THE TIED CARD OF 'drosslaw08.PartitionLeast'. -/
def partitionLeastCard : Claim7 := { stood := { row := partitionLeastRow, standIns := [], harness := (true, "79bf6f88f08e5c9227f37f880ff2b953c7585f52fdc4f7e79df8c1ea6b5092c3"), looks := false }, kinds := [], alts := [], laidByText := true, laidKinds := [.data], laidTests := true, laidLooks := .later }
def PartitionLeastCardSaid : Prop := Claim7.holds Tryd.pinned (.plain (OpenSpec.ofChange partitionLeastSpec)) partitionLeastCard

/-- THE TIED CARD OF 'drosslaw08.PartitionProduct'. -/
def partitionProductCard : Claim7 := { stood := { row := partitionProductRow, standIns := [], harness := (true, "79bf6f88f08e5c9227f37f880ff2b953c7585f52fdc4f7e79df8c1ea6b5092c3"), looks := false }, kinds := [], alts := [], laidByText := true, laidKinds := [.data], laidTests := true, laidLooks := .later }
def PartitionProductCardSaid : Prop := Claim7.holds Tryd.pinned (.plain (OpenSpec.ofChange partitionProductSpec)) partitionProductCard

/-- THE TIED CARD OF 'drosslaw08.PartitionHolds'. -/
def partitionHoldsCard : Claim7 := { stood := { row := partitionHoldsRow, standIns := [], harness := (true, "79bf6f88f08e5c9227f37f880ff2b953c7585f52fdc4f7e79df8c1ea6b5092c3"), looks := false }, kinds := [], alts := [], laidByText := true, laidKinds := [.data], laidTests := true, laidLooks := .later }
def PartitionHoldsCardSaid : Prop := Claim7.holds Tryd.pinned (.plain (OpenSpec.ofChange partitionHoldsSpec)) partitionHoldsCard

/-- THE SECOND FORM's CARD OF 'drosslaw08.PartitionOf'. -/
def partitionOfUptoCard : Claim7 := { stood := { row := partitionOfUptoRow, standIns := [], harness := (true, "79bf6f88f08e5c9227f37f880ff2b953c7585f52fdc4f7e79df8c1ea6b5092c3"), looks := false }, kinds := [], alts := [], laidByText := true, laidKinds := [.data], laidTests := true, laidLooks := .later }
def PartitionOfUptoCardSaid : Prop := Claim7.holds Tryd.pinned (.plain (OpenSpec.upto partitionOfSpec)) partitionOfUptoCard

/-- THE SECOND FORM's CARD OF 'drosslaw08.PartitionValid'. -/
def partitionValidUptoCard : Claim7 := { stood := { row := partitionValidUptoRow, standIns := [], harness := (true, "79bf6f88f08e5c9227f37f880ff2b953c7585f52fdc4f7e79df8c1ea6b5092c3"), looks := false }, kinds := [], alts := [], laidByText := true, laidKinds := [.data], laidTests := true, laidLooks := .later }
def PartitionValidUptoCardSaid : Prop := Claim7.holds Tryd.pinned (.plain (OpenSpec.upto partitionValidSpec)) partitionValidUptoCard

/-- THE SECOND FORM's CARD OF 'drosslaw08.PartitionLaws'. -/
def partitionLawsUptoCard : Claim7 := { stood := { row := partitionLawsUptoRow, standIns := [], harness := (true, "79bf6f88f08e5c9227f37f880ff2b953c7585f52fdc4f7e79df8c1ea6b5092c3"), looks := false }, kinds := [], alts := [], laidByText := true, laidKinds := [.data], laidTests := true, laidLooks := .later }
def PartitionLawsUptoCardSaid : Prop := Claim7.holds Tryd.pinned (.plain (OpenSpec.upto partitionLawsSpec)) partitionLawsUptoCard

/-- THE SECOND FORM's CARD OF 'drosslaw08.PartitionUnion'. -/
def partitionUnionUptoCard : Claim7 := { stood := { row := partitionUnionUptoRow, standIns := [], harness := (true, "79bf6f88f08e5c9227f37f880ff2b953c7585f52fdc4f7e79df8c1ea6b5092c3"), looks := false }, kinds := [], alts := [], laidByText := true, laidKinds := [.data], laidTests := true, laidLooks := .later }
def PartitionUnionUptoCardSaid : Prop := Claim7.holds Tryd.pinned (.plain (OpenSpec.upto partitionUnionSpec)) partitionUnionUptoCard

/-- THE SECOND FORM's CARD OF 'drosslaw08.PartitionRemoval'. -/
def partitionRemovalUptoCard : Claim7 := { stood := { row := partitionRemovalUptoRow, standIns := [], harness := (true, "79bf6f88f08e5c9227f37f880ff2b953c7585f52fdc4f7e79df8c1ea6b5092c3"), looks := false }, kinds := [], alts := [], laidByText := true, laidKinds := [.data], laidTests := true, laidLooks := .later }
def PartitionRemovalUptoCardSaid : Prop := Claim7.holds Tryd.pinned (.plain (OpenSpec.upto partitionRemovalSpec)) partitionRemovalUptoCard

/-- THE SECOND FORM's CARD OF 'drosslaw08.PartitionLeast'. -/
def partitionLeastUptoCard : Claim7 := { stood := { row := partitionLeastUptoRow, standIns := [], harness := (true, "79bf6f88f08e5c9227f37f880ff2b953c7585f52fdc4f7e79df8c1ea6b5092c3"), looks := false }, kinds := [], alts := [], laidByText := true, laidKinds := [.data], laidTests := true, laidLooks := .later }
def PartitionLeastUptoCardSaid : Prop := Claim7.holds Tryd.pinned (.plain (OpenSpec.upto partitionLeastSpec)) partitionLeastUptoCard

/-- THE SECOND FORM's CARD OF 'drosslaw08.PartitionProduct'. -/
def partitionProductUptoCard : Claim7 := { stood := { row := partitionProductUptoRow, standIns := [], harness := (true, "79bf6f88f08e5c9227f37f880ff2b953c7585f52fdc4f7e79df8c1ea6b5092c3"), looks := false }, kinds := [], alts := [], laidByText := true, laidKinds := [.data], laidTests := true, laidLooks := .later }
def PartitionProductUptoCardSaid : Prop := Claim7.holds Tryd.pinned (.plain (OpenSpec.upto partitionProductSpec)) partitionProductUptoCard

/-- THE SECOND FORM's CARD OF 'drosslaw08.PartitionHolds'. -/
def partitionHoldsUptoCard : Claim7 := { stood := { row := partitionHoldsUptoRow, standIns := [], harness := (true, "79bf6f88f08e5c9227f37f880ff2b953c7585f52fdc4f7e79df8c1ea6b5092c3"), looks := false }, kinds := [], alts := [], laidByText := true, laidKinds := [.data], laidTests := true, laidLooks := .later }
def PartitionHoldsUptoCardSaid : Prop := Claim7.holds Tryd.pinned (.plain (OpenSpec.upto partitionHoldsSpec)) partitionHoldsUptoCard
end Rows
end Go.Proofs.YtgclpapfgmckbaaDoor

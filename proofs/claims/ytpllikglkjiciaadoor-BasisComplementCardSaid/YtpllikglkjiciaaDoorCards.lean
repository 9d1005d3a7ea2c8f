/-
  DERIVED. GIVEN WITH THE SEED: THE CARDS: each row of YtpllikglkjiciaaDoorRows.lean that lists a variable, with what it lists TIED to the program's text (the seventh form; the later family's looks); each row that meets fmt, with fmt's text TOLD by the authors' own Lean function (tested against real Go, not proved from fmt's source: count such statements apart). THE CARD IS WHAT COUNTS. Prove the row's statement (the work); the ties are given (YtpllikglkjiciaaDoorTie.lean); close each card by the builder's one call (the guide's Derived/Test/ToyasCard.lean, 'card_holds'). Laid BY PROGRAM, IN A SANDBOX (cutbox-door.mjs). By AI agents, Wed Nov 11 2026. No macro, syntax, notation, axiom, sorry.
-/
import Derived.Test.YtpllikglkjiciaaDoorRows
import GoSem.ClaimSeven
namespace Go.Proofs.YtpllikglkjiciaaDoor
namespace Rows

/-- THE TIED CARD OF 'drosslaw13.BasisValid'. -/
def basisValidCard : Claim7 := { stood := { row := basisValidRow, standIns := [], harness := (true, "170b9b8f02292518be7413fb11dbbe105481b4147adc0ee8cc215b9ec32fedbc"), looks := false }, kinds := [], alts := [], laidByText := true, laidKinds := [.data], laidTests := true, laidLooks := .later }
def BasisValidCardSaid : Prop := Claim7.holds Tryd.pinned (.plain (OpenSpec.ofChange basisValidSpec)) basisValidCard

/-- THE TIED CARD OF 'drosslaw13.BasisErrors'. -/
def basisErrorsCard : Claim7 := { stood := { row := basisErrorsRow, standIns := [], harness := (true, "170b9b8f02292518be7413fb11dbbe105481b4147adc0ee8cc215b9ec32fedbc"), looks := false }, kinds := [], alts := [], laidByText := true, laidKinds := [.data], laidTests := true, laidLooks := .later }
def BasisErrorsCardSaid : Prop := Claim7.holds Tryd.pinned (.plain (OpenSpec.ofChange basisErrorsSpec)) basisErrorsCard

/-- THE TIED CARD OF 'drosslaw13.BasisComplement'. -/
def basisComplementCard : Claim7 := { stood := { row := basisComplementRow, standIns := [], harness := (true, "170b9b8f02292518be7413fb11dbbe105481b4147adc0ee8cc215b9ec32fedbc"), looks := false }, kinds := [], alts := [], laidByText := true, laidKinds := [.data], laidTests := true, laidLooks := .later }
def BasisComplementCardSaid : Prop := Claim7.holds Tryd.pinned (.plain (OpenSpec.ofChange basisComplementSpec)) basisComplementCard

/-- THE SECOND FORM's CARD OF 'drosslaw13.BasisValid'. -/
def basisValidUptoCard : Claim7 := { stood := { row := basisValidUptoRow, standIns := [], harness := (true, "170b9b8f02292518be7413fb11dbbe105481b4147adc0ee8cc215b9ec32fedbc"), looks := false }, kinds := [], alts := [], laidByText := true, laidKinds := [.data], laidTests := true, laidLooks := .later }
def BasisValidUptoCardSaid : Prop := Claim7.holds Tryd.pinned (.plain (OpenSpec.upto basisValidSpec)) basisValidUptoCard

/-- THE SECOND FORM's CARD OF 'drosslaw13.BasisErrors'. -/
def basisErrorsUptoCard : Claim7 := { stood := { row := basisErrorsUptoRow, standIns := [], harness := (true, "170b9b8f02292518be7413fb11dbbe105481b4147adc0ee8cc215b9ec32fedbc"), looks := false }, kinds := [], alts := [], laidByText := true, laidKinds := [.data], laidTests := true, laidLooks := .later }
def BasisErrorsUptoCardSaid : Prop := Claim7.holds Tryd.pinned (.plain (OpenSpec.upto basisErrorsSpec)) basisErrorsUptoCard

/-- THE SECOND FORM's CARD OF 'drosslaw13.BasisComplement'. -/
def basisComplementUptoCard : Claim7 := { stood := { row := basisComplementUptoRow, standIns := [], harness := (true, "170b9b8f02292518be7413fb11dbbe105481b4147adc0ee8cc215b9ec32fedbc"), looks := false }, kinds := [], alts := [], laidByText := true, laidKinds := [.data], laidTests := true, laidLooks := .later }
def BasisComplementUptoCardSaid : Prop := Claim7.holds Tryd.pinned (.plain (OpenSpec.upto basisComplementSpec)) basisComplementUptoCard
end Rows
end Go.Proofs.YtpllikglkjiciaaDoor

/-
  DERIVED. GIVEN WITH THE SEED: THE CARDS: each row of YtmiedlcblpiemaaDoorRows.lean that lists a variable, with what it lists TIED to the program's text (the seventh form; the later family's looks); each row that meets fmt, with fmt's text TOLD by the authors' own Lean function (tested against real Go, not proved from fmt's source: count such statements apart). THE CARD IS WHAT COUNTS. Prove the row's statement (the work); the ties are given (YtmiedlcblpiemaaDoorTie.lean); close each card by the builder's one call (the guide's Derived/Test/ToyasCard.lean, 'card_holds'). Laid BY PROGRAM, IN A SANDBOX (cutbox-door.mjs). By AI agents, Wed Nov 11 2026. No macro, syntax, notation, axiom, sorry.
-/
import Derived.Test.YtmiedlcblpiemaaDoorRows
import GoSem.ClaimSeven
namespace Go.Proofs.YtmiedlcblpiemaaDoor
namespace Rows

/-- THE TIED CARD OF 'drosslaw13.BasisBasis'. -/
def basisBasisCard : Claim7 := { stood := { row := basisBasisRow, standIns := [], harness := (true, "944528619b344f962a8d4cf76dcebf53d15035421fed913550d654fc9ac7fdb4"), looks := false }, kinds := [], alts := [], laidByText := true, laidKinds := [.data], laidTests := true, laidLooks := .later }
def BasisBasisCardSaid : Prop := Claim7.holds Tryd.pinned (.plain (OpenSpec.ofChange basisBasisSpec)) basisBasisCard

/-- THE TIED CARD OF 'drosslaw13.BasisClose'. -/
def basisCloseCard : Claim7 := { stood := { row := basisCloseRow, standIns := [], harness := (true, "944528619b344f962a8d4cf76dcebf53d15035421fed913550d654fc9ac7fdb4"), looks := false }, kinds := [], alts := [], laidByText := true, laidKinds := [.data], laidTests := true, laidLooks := .later }
def BasisCloseCardSaid : Prop := Claim7.holds Tryd.pinned (.plain (OpenSpec.ofChange basisCloseSpec)) basisCloseCard

/-- THE TIED CARD OF 'drosslaw13.BasisBoth'. -/
def basisBothCard : Claim7 := { stood := { row := basisBothRow, standIns := [], harness := (true, "944528619b344f962a8d4cf76dcebf53d15035421fed913550d654fc9ac7fdb4"), looks := false }, kinds := [], alts := [], laidByText := true, laidKinds := [.data], laidTests := true, laidLooks := .later }
def BasisBothCardSaid : Prop := Claim7.holds Tryd.pinned (.plain (OpenSpec.ofChange basisBothSpec)) basisBothCard

/-- THE TIED CARD OF 'drosslaw13.BasisImplies'. -/
def basisImpliesCard : Claim7 := { stood := { row := basisImpliesRow, standIns := [], harness := (true, "944528619b344f962a8d4cf76dcebf53d15035421fed913550d654fc9ac7fdb4"), looks := false }, kinds := [], alts := [], laidByText := true, laidKinds := [.data], laidTests := true, laidLooks := .later }
def BasisImpliesCardSaid : Prop := Claim7.holds Tryd.pinned (.plain (OpenSpec.ofChange basisImpliesSpec)) basisImpliesCard

/-- THE TIED CARD OF 'drosslaw13.BasisHolds'. -/
def basisHoldsCard : Claim7 := { stood := { row := basisHoldsRow, standIns := [], harness := (true, "944528619b344f962a8d4cf76dcebf53d15035421fed913550d654fc9ac7fdb4"), looks := false }, kinds := [], alts := [], laidByText := true, laidKinds := [.data], laidTests := true, laidLooks := .later }
def BasisHoldsCardSaid : Prop := Claim7.holds Tryd.pinned (.plain (OpenSpec.ofChange basisHoldsSpec)) basisHoldsCard

/-- THE TIED CARD OF 'drosslaw13.BasisSound'. -/
def basisSoundCard : Claim7 := { stood := { row := basisSoundRow, standIns := [], harness := (true, "944528619b344f962a8d4cf76dcebf53d15035421fed913550d654fc9ac7fdb4"), looks := false }, kinds := [], alts := [], laidByText := true, laidKinds := [.data], laidTests := true, laidLooks := .later }
def BasisSoundCardSaid : Prop := Claim7.holds Tryd.pinned (.plain (OpenSpec.ofChange basisSoundSpec)) basisSoundCard

/-- THE SECOND FORM's CARD OF 'drosslaw13.BasisBasis'. -/
def basisBasisUptoCard : Claim7 := { stood := { row := basisBasisUptoRow, standIns := [], harness := (true, "944528619b344f962a8d4cf76dcebf53d15035421fed913550d654fc9ac7fdb4"), looks := false }, kinds := [], alts := [], laidByText := true, laidKinds := [.data], laidTests := true, laidLooks := .later }
def BasisBasisUptoCardSaid : Prop := Claim7.holds Tryd.pinned (.plain (OpenSpec.upto basisBasisSpec)) basisBasisUptoCard

/-- THE SECOND FORM's CARD OF 'drosslaw13.BasisClose'. -/
def basisCloseUptoCard : Claim7 := { stood := { row := basisCloseUptoRow, standIns := [], harness := (true, "944528619b344f962a8d4cf76dcebf53d15035421fed913550d654fc9ac7fdb4"), looks := false }, kinds := [], alts := [], laidByText := true, laidKinds := [.data], laidTests := true, laidLooks := .later }
def BasisCloseUptoCardSaid : Prop := Claim7.holds Tryd.pinned (.plain (OpenSpec.upto basisCloseSpec)) basisCloseUptoCard

/-- THE SECOND FORM's CARD OF 'drosslaw13.BasisBoth'. -/
def basisBothUptoCard : Claim7 := { stood := { row := basisBothUptoRow, standIns := [], harness := (true, "944528619b344f962a8d4cf76dcebf53d15035421fed913550d654fc9ac7fdb4"), looks := false }, kinds := [], alts := [], laidByText := true, laidKinds := [.data], laidTests := true, laidLooks := .later }
def BasisBothUptoCardSaid : Prop := Claim7.holds Tryd.pinned (.plain (OpenSpec.upto basisBothSpec)) basisBothUptoCard

/-- THE SECOND FORM's CARD OF 'drosslaw13.BasisImplies'. -/
def basisImpliesUptoCard : Claim7 := { stood := { row := basisImpliesUptoRow, standIns := [], harness := (true, "944528619b344f962a8d4cf76dcebf53d15035421fed913550d654fc9ac7fdb4"), looks := false }, kinds := [], alts := [], laidByText := true, laidKinds := [.data], laidTests := true, laidLooks := .later }
def BasisImpliesUptoCardSaid : Prop := Claim7.holds Tryd.pinned (.plain (OpenSpec.upto basisImpliesSpec)) basisImpliesUptoCard

/-- THE SECOND FORM's CARD OF 'drosslaw13.BasisHolds'. -/
def basisHoldsUptoCard : Claim7 := { stood := { row := basisHoldsUptoRow, standIns := [], harness := (true, "944528619b344f962a8d4cf76dcebf53d15035421fed913550d654fc9ac7fdb4"), looks := false }, kinds := [], alts := [], laidByText := true, laidKinds := [.data], laidTests := true, laidLooks := .later }
def BasisHoldsUptoCardSaid : Prop := Claim7.holds Tryd.pinned (.plain (OpenSpec.upto basisHoldsSpec)) basisHoldsUptoCard

/-- THE SECOND FORM's CARD OF 'drosslaw13.BasisSound'. -/
def basisSoundUptoCard : Claim7 := { stood := { row := basisSoundUptoRow, standIns := [], harness := (true, "944528619b344f962a8d4cf76dcebf53d15035421fed913550d654fc9ac7fdb4"), looks := false }, kinds := [], alts := [], laidByText := true, laidKinds := [.data], laidTests := true, laidLooks := .later }
def BasisSoundUptoCardSaid : Prop := Claim7.holds Tryd.pinned (.plain (OpenSpec.upto basisSoundSpec)) basisSoundUptoCard
end Rows
end Go.Proofs.YtmiedlcblpiemaaDoor

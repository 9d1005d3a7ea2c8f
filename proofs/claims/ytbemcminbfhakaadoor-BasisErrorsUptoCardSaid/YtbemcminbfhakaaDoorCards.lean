/-
  DERIVED. GIVEN WITH THE SEED: THE CARDS: each row of YtbemcminbfhakaaDoorRows.lean that lists a variable, with what it lists TIED to the program's text (the seventh form; the later family's looks); each row that meets fmt, with fmt's text TOLD by the authors' own Lean function (tested against real Go, not proved from fmt's source: count such statements apart). THE CARD IS WHAT COUNTS. Prove the row's statement (the work); the ties are given (YtbemcminbfhakaaDoorTie.lean); close each card by the builder's one call (the guide's Derived/Test/ToyasCard.lean, 'card_holds'). Laid BY PROGRAM, IN A SANDBOX (cutbox-door.mjs). By AI agents, Wed Nov 11 2026. No macro, syntax, notation, axiom, sorry.
-/
import Derived.Test.YtbemcminbfhakaaDoorRows
import GoSem.ClaimSeven
namespace Go.Proofs.YtbemcminbfhakaaDoor
namespace Rows

/-- THE TIED CARD OF 'drosslaw13.BasisErrors'. -/
def basisErrorsCard : Claim7 := { stood := { row := basisErrorsRow, standIns := [], harness := (true, "37b918d873a3176561c511b87766d4ea9a00d7c52f7c92be84b74191a9b330fc"), looks := false }, kinds := [], alts := [], laidByText := true, laidKinds := [.data], laidTests := true, laidLooks := .later }
def BasisErrorsCardSaid : Prop := Claim7.holds Tryd.pinned (.plain (OpenSpec.ofChange basisErrorsSpec)) basisErrorsCard

/-- THE TIED CARD OF 'drosslaw20.RefuteFD'. -/
def refuteFDCard : Claim7 := { stood := { row := refuteFDRow, standIns := [], harness := (true, "37b918d873a3176561c511b87766d4ea9a00d7c52f7c92be84b74191a9b330fc"), looks := false }, kinds := [], alts := [], laidByText := true, laidKinds := [.data], laidTests := true, laidLooks := .later }
def RefuteFDCardSaid : Prop := Claim7.holds Tryd.pinned (.plain (OpenSpec.ofChange refuteFDSpec)) refuteFDCard

/-- THE TIED CARD OF 'drosslaw20.RefuteTwo'. -/
def refuteTwoCard : Claim7 := { stood := { row := refuteTwoRow, standIns := [], harness := (true, "37b918d873a3176561c511b87766d4ea9a00d7c52f7c92be84b74191a9b330fc"), looks := false }, kinds := [], alts := [], laidByText := true, laidKinds := [.data], laidTests := true, laidLooks := .later }
def RefuteTwoCardSaid : Prop := Claim7.holds Tryd.pinned (.plain (OpenSpec.ofChange refuteTwoSpec)) refuteTwoCard

/-- THE TIED CARD OF 'drosslaw20.RefuteErrors'. -/
def refuteErrorsCard : Claim7 := { stood := { row := refuteErrorsRow, standIns := [], harness := (true, "37b918d873a3176561c511b87766d4ea9a00d7c52f7c92be84b74191a9b330fc"), looks := false }, kinds := [], alts := [], laidByText := true, laidKinds := [.data], laidTests := true, laidLooks := .later }
def RefuteErrorsCardSaid : Prop := Claim7.holds Tryd.pinned (.plain (OpenSpec.ofChange refuteErrorsSpec)) refuteErrorsCard

/-- THE SECOND FORM's CARD OF 'drosslaw13.BasisErrors'. -/
def basisErrorsUptoCard : Claim7 := { stood := { row := basisErrorsUptoRow, standIns := [], harness := (true, "37b918d873a3176561c511b87766d4ea9a00d7c52f7c92be84b74191a9b330fc"), looks := false }, kinds := [], alts := [], laidByText := true, laidKinds := [.data], laidTests := true, laidLooks := .later }
def BasisErrorsUptoCardSaid : Prop := Claim7.holds Tryd.pinned (.plain (OpenSpec.upto basisErrorsSpec)) basisErrorsUptoCard

/-- THE SECOND FORM's CARD OF 'drosslaw20.RefuteFD'. -/
def refuteFDUptoCard : Claim7 := { stood := { row := refuteFDUptoRow, standIns := [], harness := (true, "37b918d873a3176561c511b87766d4ea9a00d7c52f7c92be84b74191a9b330fc"), looks := false }, kinds := [], alts := [], laidByText := true, laidKinds := [.data], laidTests := true, laidLooks := .later }
def RefuteFDUptoCardSaid : Prop := Claim7.holds Tryd.pinned (.plain (OpenSpec.upto refuteFDSpec)) refuteFDUptoCard

/-- THE SECOND FORM's CARD OF 'drosslaw20.RefuteTwo'. -/
def refuteTwoUptoCard : Claim7 := { stood := { row := refuteTwoUptoRow, standIns := [], harness := (true, "37b918d873a3176561c511b87766d4ea9a00d7c52f7c92be84b74191a9b330fc"), looks := false }, kinds := [], alts := [], laidByText := true, laidKinds := [.data], laidTests := true, laidLooks := .later }
def RefuteTwoUptoCardSaid : Prop := Claim7.holds Tryd.pinned (.plain (OpenSpec.upto refuteTwoSpec)) refuteTwoUptoCard

/-- THE SECOND FORM's CARD OF 'drosslaw20.RefuteErrors'. -/
def refuteErrorsUptoCard : Claim7 := { stood := { row := refuteErrorsUptoRow, standIns := [], harness := (true, "37b918d873a3176561c511b87766d4ea9a00d7c52f7c92be84b74191a9b330fc"), looks := false }, kinds := [], alts := [], laidByText := true, laidKinds := [.data], laidTests := true, laidLooks := .later }
def RefuteErrorsUptoCardSaid : Prop := Claim7.holds Tryd.pinned (.plain (OpenSpec.upto refuteErrorsSpec)) refuteErrorsUptoCard
end Rows
end Go.Proofs.YtbemcminbfhakaaDoor

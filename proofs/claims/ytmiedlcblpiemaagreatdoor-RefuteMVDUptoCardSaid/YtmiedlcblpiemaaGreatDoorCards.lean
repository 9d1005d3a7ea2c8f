/-
  DERIVED. GIVEN WITH THE SEED: THE CARDS: each row of YtmiedlcblpiemaaGreatDoorRows.lean that lists a variable, with what it lists TIED to the program's text (the seventh form; the later family's looks); each row that meets fmt, with fmt's text TOLD by the authors' own Lean function (tested against real Go, not proved from fmt's source: count such statements apart). THE CARD IS WHAT COUNTS. Prove the row's statement (the work); the ties are given (YtmiedlcblpiemaaGreatDoorTie.lean); close each card by the builder's one call (the guide's Derived/Test/ToyasCard.lean, 'card_holds'). Laid BY PROGRAM, IN A SANDBOX (cutbox-door.mjs). By AI agents, Wed Nov 11 2026. No macro, syntax, notation, axiom, sorry.
-/
import Derived.Test.YtmiedlcblpiemaaGreatDoorRows
import GoSem.ClaimSeven
namespace Go.Proofs.YtmiedlcblpiemaaGreatDoor
namespace Rows

/-- THE TIED CARD OF 'drosslaw20.RefuteMixed'. -/
def refuteMixedCard : Claim7 := { stood := { row := refuteMixedRow, standIns := [], harness := (true, "6d7a8fa8f1d7a3a7a3d96de108f99e8d527c0b209fdc217f423e84dba09fc58f"), looks := false }, kinds := [], alts := [], laidByText := true, laidKinds := [.data], laidTests := true, laidLooks := .later }
def RefuteMixedCardSaid : Prop := Claim7.holds Tryz.pinned (.plain (OpenSpec.ofChange refuteMixedSpec)) refuteMixedCard

/-- THE TIED CARD OF 'drosslaw20.RefuteSatisfies'. -/
def refuteSatisfiesCard : Claim7 := { stood := { row := refuteSatisfiesRow, standIns := [], harness := (true, "6d7a8fa8f1d7a3a7a3d96de108f99e8d527c0b209fdc217f423e84dba09fc58f"), looks := false }, kinds := [], alts := [], laidByText := true, laidKinds := [.data], laidTests := true, laidLooks := .later }
def RefuteSatisfiesCardSaid : Prop := Claim7.holds Tryz.pinned (.plain (OpenSpec.ofChange refuteSatisfiesSpec)) refuteSatisfiesCard

/-- THE TIED CARD OF 'drosslaw20.RefuteCheck'. -/
def refuteCheckCard : Claim7 := { stood := { row := refuteCheckRow, standIns := [], harness := (true, "6d7a8fa8f1d7a3a7a3d96de108f99e8d527c0b209fdc217f423e84dba09fc58f"), looks := false }, kinds := [], alts := [], laidByText := true, laidKinds := [.data], laidTests := true, laidLooks := .later }
def RefuteCheckCardSaid : Prop := Claim7.holds Tryz.pinned (.plain (OpenSpec.ofChange refuteCheckSpec)) refuteCheckCard

/-- THE TIED CARD OF 'drosslaw20.RefuteMVD'. -/
def refuteMVDCard : Claim7 := { stood := { row := refuteMVDRow, standIns := [], harness := (true, "6d7a8fa8f1d7a3a7a3d96de108f99e8d527c0b209fdc217f423e84dba09fc58f"), looks := false }, kinds := [], alts := [], laidByText := true, laidKinds := [.data], laidTests := true, laidLooks := .later }
def RefuteMVDCardSaid : Prop := Claim7.holds Tryz.pinned (.plain (OpenSpec.ofChange refuteMVDSpec)) refuteMVDCard

/-- THE TIED CARD OF 'drosslaw20.RefuteSmallest'. -/
def refuteSmallestCard : Claim7 := { stood := { row := refuteSmallestRow, standIns := [], harness := (true, "6d7a8fa8f1d7a3a7a3d96de108f99e8d527c0b209fdc217f423e84dba09fc58f"), looks := false }, kinds := [], alts := [], laidByText := true, laidKinds := [.data], laidTests := true, laidLooks := .later }
def RefuteSmallestCardSaid : Prop := Claim7.holds Tryz.pinned (.plain (OpenSpec.ofChange refuteSmallestSpec)) refuteSmallestCard

/-- THE SECOND FORM's CARD OF 'drosslaw20.RefuteMixed'. -/
def refuteMixedUptoCard : Claim7 := { stood := { row := refuteMixedUptoRow, standIns := [], harness := (true, "6d7a8fa8f1d7a3a7a3d96de108f99e8d527c0b209fdc217f423e84dba09fc58f"), looks := false }, kinds := [], alts := [], laidByText := true, laidKinds := [.data], laidTests := true, laidLooks := .later }
def RefuteMixedUptoCardSaid : Prop := Claim7.holds Tryz.pinned (.plain (OpenSpec.upto refuteMixedSpec)) refuteMixedUptoCard

/-- THE SECOND FORM's CARD OF 'drosslaw20.RefuteSatisfies'. -/
def refuteSatisfiesUptoCard : Claim7 := { stood := { row := refuteSatisfiesUptoRow, standIns := [], harness := (true, "6d7a8fa8f1d7a3a7a3d96de108f99e8d527c0b209fdc217f423e84dba09fc58f"), looks := false }, kinds := [], alts := [], laidByText := true, laidKinds := [.data], laidTests := true, laidLooks := .later }
def RefuteSatisfiesUptoCardSaid : Prop := Claim7.holds Tryz.pinned (.plain (OpenSpec.upto refuteSatisfiesSpec)) refuteSatisfiesUptoCard

/-- THE SECOND FORM's CARD OF 'drosslaw20.RefuteCheck'. -/
def refuteCheckUptoCard : Claim7 := { stood := { row := refuteCheckUptoRow, standIns := [], harness := (true, "6d7a8fa8f1d7a3a7a3d96de108f99e8d527c0b209fdc217f423e84dba09fc58f"), looks := false }, kinds := [], alts := [], laidByText := true, laidKinds := [.data], laidTests := true, laidLooks := .later }
def RefuteCheckUptoCardSaid : Prop := Claim7.holds Tryz.pinned (.plain (OpenSpec.upto refuteCheckSpec)) refuteCheckUptoCard

/-- THE SECOND FORM's CARD OF 'drosslaw20.RefuteMVD'. -/
def refuteMVDUptoCard : Claim7 := { stood := { row := refuteMVDUptoRow, standIns := [], harness := (true, "6d7a8fa8f1d7a3a7a3d96de108f99e8d527c0b209fdc217f423e84dba09fc58f"), looks := false }, kinds := [], alts := [], laidByText := true, laidKinds := [.data], laidTests := true, laidLooks := .later }
def RefuteMVDUptoCardSaid : Prop := Claim7.holds Tryz.pinned (.plain (OpenSpec.upto refuteMVDSpec)) refuteMVDUptoCard

/-- THE SECOND FORM's CARD OF 'drosslaw20.RefuteSmallest'. -/
def refuteSmallestUptoCard : Claim7 := { stood := { row := refuteSmallestUptoRow, standIns := [], harness := (true, "6d7a8fa8f1d7a3a7a3d96de108f99e8d527c0b209fdc217f423e84dba09fc58f"), looks := false }, kinds := [], alts := [], laidByText := true, laidKinds := [.data], laidTests := true, laidLooks := .later }
def RefuteSmallestUptoCardSaid : Prop := Claim7.holds Tryz.pinned (.plain (OpenSpec.upto refuteSmallestSpec)) refuteSmallestUptoCard
end Rows
end Go.Proofs.YtmiedlcblpiemaaGreatDoor

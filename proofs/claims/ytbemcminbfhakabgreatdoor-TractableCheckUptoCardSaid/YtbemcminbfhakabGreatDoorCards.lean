/-
  DERIVED. GIVEN WITH THE SEED: THE CARDS: each row of YtbemcminbfhakabGreatDoorRows.lean that lists a variable, with what it lists TIED to the program's text (the seventh form; the later family's looks); each row that meets fmt, with fmt's text TOLD by the authors' own Lean function (tested against real Go, not proved from fmt's source: count such statements apart). THE CARD IS WHAT COUNTS. Prove the row's statement (the work); the ties are given (YtbemcminbfhakabGreatDoorTie.lean); close each card by the builder's one call (the guide's Derived/Test/ToyasCard.lean, 'card_holds'). Laid BY PROGRAM, IN A SANDBOX (cutbox-door.mjs). By AI agents, Wed Nov 11 2026. No macro, syntax, notation, axiom, sorry.
-/
import Derived.Test.YtbemcminbfhakabGreatDoorRows
import GoSem.ClaimSeven
namespace Go.Proofs.YtbemcminbfhakabGreatDoor
namespace Rows

/-- THE TIED CARD OF 'drosslaw42.TractableErrors'. -/
def tractableErrorsCard : Claim7 := { stood := { row := tractableErrorsRow, standIns := [], harness := (true, "3500d33c285ba952248666c1ab20861ab4190cb7cf73b17afe135f8f73b8d641"), looks := false }, kinds := [], alts := [], laidByText := true, laidKinds := [.data], laidTests := true, laidLooks := .later }
def TractableErrorsCardSaid : Prop := Claim7.holds Tryz.pinned (.plain (OpenSpec.ofChange tractableErrorsSpec)) tractableErrorsCard

/-- THE TIED CARD OF 'drosslaw42.TractableClear'. -/
def tractableClearCard : Claim7 := { stood := { row := tractableClearRow, standIns := [], harness := (true, "3500d33c285ba952248666c1ab20861ab4190cb7cf73b17afe135f8f73b8d641"), looks := false }, kinds := [], alts := [], laidByText := true, laidKinds := [.data], laidTests := true, laidLooks := .later }
def TractableClearCardSaid : Prop := Claim7.holds Tryz.pinned (.plain (OpenSpec.ofChange tractableClearSpec)) tractableClearCard

/-- THE TIED CARD OF 'drosslaw42.TractableApply'. -/
def tractableApplyCard : Claim7 := { stood := { row := tractableApplyRow, standIns := [], harness := (true, "3500d33c285ba952248666c1ab20861ab4190cb7cf73b17afe135f8f73b8d641"), looks := false }, kinds := [], alts := [], laidByText := true, laidKinds := [.data], laidTests := true, laidLooks := .later }
def TractableApplyCardSaid : Prop := Claim7.holds Tryz.pinned (.plain (OpenSpec.ofChange tractableApplySpec)) tractableApplyCard

/-- THE TIED CARD OF 'drosslaw42.TractableCheck'. -/
def tractableCheckCard : Claim7 := { stood := { row := tractableCheckRow, standIns := [], harness := (true, "3500d33c285ba952248666c1ab20861ab4190cb7cf73b17afe135f8f73b8d641"), looks := false }, kinds := [], alts := [], laidByText := true, laidKinds := [.data], laidTests := true, laidLooks := .later }
def TractableCheckCardSaid : Prop := Claim7.holds Tryz.pinned (.plain (OpenSpec.ofChange tractableCheckSpec)) tractableCheckCard

/-- THE SECOND FORM's CARD OF 'drosslaw42.TractableErrors'. -/
def tractableErrorsUptoCard : Claim7 := { stood := { row := tractableErrorsUptoRow, standIns := [], harness := (true, "3500d33c285ba952248666c1ab20861ab4190cb7cf73b17afe135f8f73b8d641"), looks := false }, kinds := [], alts := [], laidByText := true, laidKinds := [.data], laidTests := true, laidLooks := .later }
def TractableErrorsUptoCardSaid : Prop := Claim7.holds Tryz.pinned (.plain (OpenSpec.upto tractableErrorsSpec)) tractableErrorsUptoCard

/-- THE SECOND FORM's CARD OF 'drosslaw42.TractableClear'. -/
def tractableClearUptoCard : Claim7 := { stood := { row := tractableClearUptoRow, standIns := [], harness := (true, "3500d33c285ba952248666c1ab20861ab4190cb7cf73b17afe135f8f73b8d641"), looks := false }, kinds := [], alts := [], laidByText := true, laidKinds := [.data], laidTests := true, laidLooks := .later }
def TractableClearUptoCardSaid : Prop := Claim7.holds Tryz.pinned (.plain (OpenSpec.upto tractableClearSpec)) tractableClearUptoCard

/-- THE SECOND FORM's CARD OF 'drosslaw42.TractableApply'. -/
def tractableApplyUptoCard : Claim7 := { stood := { row := tractableApplyUptoRow, standIns := [], harness := (true, "3500d33c285ba952248666c1ab20861ab4190cb7cf73b17afe135f8f73b8d641"), looks := false }, kinds := [], alts := [], laidByText := true, laidKinds := [.data], laidTests := true, laidLooks := .later }
def TractableApplyUptoCardSaid : Prop := Claim7.holds Tryz.pinned (.plain (OpenSpec.upto tractableApplySpec)) tractableApplyUptoCard

/-- THE SECOND FORM's CARD OF 'drosslaw42.TractableCheck'. -/
def tractableCheckUptoCard : Claim7 := { stood := { row := tractableCheckUptoRow, standIns := [], harness := (true, "3500d33c285ba952248666c1ab20861ab4190cb7cf73b17afe135f8f73b8d641"), looks := false }, kinds := [], alts := [], laidByText := true, laidKinds := [.data], laidTests := true, laidLooks := .later }
def TractableCheckUptoCardSaid : Prop := Claim7.holds Tryz.pinned (.plain (OpenSpec.upto tractableCheckSpec)) tractableCheckUptoCard
end Rows
end Go.Proofs.YtbemcminbfhakabGreatDoor

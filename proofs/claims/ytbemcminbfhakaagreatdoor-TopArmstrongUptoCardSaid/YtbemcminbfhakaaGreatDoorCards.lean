/-
  DERIVED. GIVEN WITH THE SEED: THE CARDS: each row of YtbemcminbfhakaaGreatDoorRows.lean that lists a variable, with what it lists TIED to the program's text (the seventh form; the later family's looks); each row that meets fmt, with fmt's text TOLD by the authors' own Lean function (tested against real Go, not proved from fmt's source: count such statements apart). THE CARD IS WHAT COUNTS. Prove the row's statement (the work); the ties are given (YtbemcminbfhakaaGreatDoorTie.lean); close each card by the builder's one call (the guide's Derived/Test/ToyasCard.lean, 'card_holds'). Laid BY PROGRAM, IN A SANDBOX (cutbox-door.mjs). By AI agents, Wed Nov 11 2026. No macro, syntax, notation, axiom, sorry.
-/
import Derived.Test.YtbemcminbfhakaaGreatDoorRows
import GoSem.ClaimSeven
namespace Go.Proofs.YtbemcminbfhakaaGreatDoor
namespace Rows

/-- THE TIED CARD OF 'drosstop.TopArmstrong'. -/
def topArmstrongCard : Claim7 := { stood := { row := topArmstrongRow, standIns := [], harness := (true, "5e410dd3a4487d0c858bde3da16bb278359ce1067b513b7c151827f6975f6dec"), looks := false }, kinds := [], alts := [], laidByText := true, laidKinds := [.data], laidTests := true, laidLooks := .later }
def TopArmstrongCardSaid : Prop := Claim7.holds Tryz.pinned (.plain (OpenSpec.ofChange topArmstrongSpec)) topArmstrongCard

/-- THE TIED CARD OF 'drosslaw42.TractableChain'. -/
def tractableChainCard : Claim7 := { stood := { row := tractableChainRow, standIns := [], harness := (true, "5e410dd3a4487d0c858bde3da16bb278359ce1067b513b7c151827f6975f6dec"), looks := false }, kinds := [], alts := [], laidByText := true, laidKinds := [.data], laidTests := true, laidLooks := .later }
def TractableChainCardSaid : Prop := Claim7.holds Tryz.pinned (.plain (OpenSpec.ofChange tractableChainSpec)) tractableChainCard

/-- THE SECOND FORM's CARD OF 'drosstop.TopArmstrong'. -/
def topArmstrongUptoCard : Claim7 := { stood := { row := topArmstrongUptoRow, standIns := [], harness := (true, "5e410dd3a4487d0c858bde3da16bb278359ce1067b513b7c151827f6975f6dec"), looks := false }, kinds := [], alts := [], laidByText := true, laidKinds := [.data], laidTests := true, laidLooks := .later }
def TopArmstrongUptoCardSaid : Prop := Claim7.holds Tryz.pinned (.plain (OpenSpec.upto topArmstrongSpec)) topArmstrongUptoCard

/-- THE SECOND FORM's CARD OF 'drosslaw42.TractableChain'. -/
def tractableChainUptoCard : Claim7 := { stood := { row := tractableChainUptoRow, standIns := [], harness := (true, "5e410dd3a4487d0c858bde3da16bb278359ce1067b513b7c151827f6975f6dec"), looks := false }, kinds := [], alts := [], laidByText := true, laidKinds := [.data], laidTests := true, laidLooks := .later }
def TractableChainUptoCardSaid : Prop := Claim7.holds Tryz.pinned (.plain (OpenSpec.upto tractableChainSpec)) tractableChainUptoCard
end Rows
end Go.Proofs.YtbemcminbfhakaaGreatDoor

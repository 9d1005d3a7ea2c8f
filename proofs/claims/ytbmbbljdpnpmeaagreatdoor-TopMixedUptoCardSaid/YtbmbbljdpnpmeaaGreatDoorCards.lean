/-
  DERIVED. GIVEN WITH THE SEED: THE CARDS: each row of YtbmbbljdpnpmeaaGreatDoorRows.lean that lists a variable, with what it lists TIED to the program's text (the seventh form; the later family's looks); each row that meets fmt, with fmt's text TOLD by the authors' own Lean function (tested against real Go, not proved from fmt's source: count such statements apart). THE CARD IS WHAT COUNTS. Prove the row's statement (the work); the ties are given (YtbmbbljdpnpmeaaGreatDoorTie.lean); close each card by the builder's one call (the guide's Derived/Test/ToyasCard.lean, 'card_holds'). Laid BY PROGRAM, IN A SANDBOX (cutbox-door.mjs). By AI agents, Wed Nov 11 2026. No macro, syntax, notation, axiom, sorry.
-/
import Derived.Test.YtbmbbljdpnpmeaaGreatDoorRows
import GoSem.ClaimSeven
namespace Go.Proofs.YtbmbbljdpnpmeaaGreatDoor
namespace Rows

/-- THE TIED CARD OF 'drosstop.TopMixed'. -/
def topMixedCard : Claim7 := { stood := { row := topMixedRow, standIns := [], harness := (true, "6c0cd4b789ac2118defd3fa885bf6e10d9b8e451ab6b9e687ddfece7041dd8c3"), looks := false }, kinds := [], alts := [], laidByText := true, laidKinds := [.data], laidTests := true, laidLooks := .later }
def TopMixedCardSaid : Prop := Claim7.holds Tryz.pinned (.plain (OpenSpec.ofChange topMixedSpec)) topMixedCard

/-- THE TIED CARD OF 'drosstop.TopCovers'. -/
def topCoversCard : Claim7 := { stood := { row := topCoversRow, standIns := [], harness := (true, "6c0cd4b789ac2118defd3fa885bf6e10d9b8e451ab6b9e687ddfece7041dd8c3"), looks := false }, kinds := [], alts := [], laidByText := true, laidKinds := [.data], laidTests := true, laidLooks := .later }
def TopCoversCardSaid : Prop := Claim7.holds Tryz.pinned (.plain (OpenSpec.ofChange topCoversSpec)) topCoversCard

/-- THE TIED CARD OF 'drosstop.TopMultivalued'. -/
def topMultivaluedCard : Claim7 := { stood := { row := topMultivaluedRow, standIns := [], harness := (true, "6c0cd4b789ac2118defd3fa885bf6e10d9b8e451ab6b9e687ddfece7041dd8c3"), looks := false }, kinds := [], alts := [], laidByText := true, laidKinds := [.data], laidTests := true, laidLooks := .later }
def TopMultivaluedCardSaid : Prop := Claim7.holds Tryz.pinned (.plain (OpenSpec.ofChange topMultivaluedSpec)) topMultivaluedCard

/-- THE TIED CARD OF 'drosstop.TopTranslations'. -/
def topTranslationsCard : Claim7 := { stood := { row := topTranslationsRow, standIns := [], harness := (true, "6c0cd4b789ac2118defd3fa885bf6e10d9b8e451ab6b9e687ddfece7041dd8c3"), looks := false }, kinds := [], alts := [], laidByText := true, laidKinds := [.data], laidTests := true, laidLooks := .later }
def TopTranslationsCardSaid : Prop := Claim7.holds Tryz.pinned (.plain (OpenSpec.ofChange topTranslationsSpec)) topTranslationsCard

/-- THE TIED CARD OF 'drosstop.TopOrders'. -/
def topOrdersCard : Claim7 := { stood := { row := topOrdersRow, standIns := [], harness := (true, "6c0cd4b789ac2118defd3fa885bf6e10d9b8e451ab6b9e687ddfece7041dd8c3"), looks := false }, kinds := [], alts := [], laidByText := true, laidKinds := [.data], laidTests := true, laidLooks := .later }
def TopOrdersCardSaid : Prop := Claim7.holds Tryz.pinned (.plain (OpenSpec.ofChange topOrdersSpec)) topOrdersCard

/-- THE TIED CARD OF 'drosstop.TopPlain'. -/
def topPlainCard : Claim7 := { stood := { row := topPlainRow, standIns := [], harness := (true, "6c0cd4b789ac2118defd3fa885bf6e10d9b8e451ab6b9e687ddfece7041dd8c3"), looks := false }, kinds := [], alts := [], laidByText := true, laidKinds := [.data], laidTests := true, laidLooks := .later }
def TopPlainCardSaid : Prop := Claim7.holds Tryz.pinned (.plain (OpenSpec.ofChange topPlainSpec)) topPlainCard

/-- THE SECOND FORM's CARD OF 'drosstop.TopMixed'. -/
def topMixedUptoCard : Claim7 := { stood := { row := topMixedUptoRow, standIns := [], harness := (true, "6c0cd4b789ac2118defd3fa885bf6e10d9b8e451ab6b9e687ddfece7041dd8c3"), looks := false }, kinds := [], alts := [], laidByText := true, laidKinds := [.data], laidTests := true, laidLooks := .later }
def TopMixedUptoCardSaid : Prop := Claim7.holds Tryz.pinned (.plain (OpenSpec.upto topMixedSpec)) topMixedUptoCard

/-- THE SECOND FORM's CARD OF 'drosstop.TopCovers'. -/
def topCoversUptoCard : Claim7 := { stood := { row := topCoversUptoRow, standIns := [], harness := (true, "6c0cd4b789ac2118defd3fa885bf6e10d9b8e451ab6b9e687ddfece7041dd8c3"), looks := false }, kinds := [], alts := [], laidByText := true, laidKinds := [.data], laidTests := true, laidLooks := .later }
def TopCoversUptoCardSaid : Prop := Claim7.holds Tryz.pinned (.plain (OpenSpec.upto topCoversSpec)) topCoversUptoCard

/-- THE SECOND FORM's CARD OF 'drosstop.TopMultivalued'. -/
def topMultivaluedUptoCard : Claim7 := { stood := { row := topMultivaluedUptoRow, standIns := [], harness := (true, "6c0cd4b789ac2118defd3fa885bf6e10d9b8e451ab6b9e687ddfece7041dd8c3"), looks := false }, kinds := [], alts := [], laidByText := true, laidKinds := [.data], laidTests := true, laidLooks := .later }
def TopMultivaluedUptoCardSaid : Prop := Claim7.holds Tryz.pinned (.plain (OpenSpec.upto topMultivaluedSpec)) topMultivaluedUptoCard

/-- THE SECOND FORM's CARD OF 'drosstop.TopTranslations'. -/
def topTranslationsUptoCard : Claim7 := { stood := { row := topTranslationsUptoRow, standIns := [], harness := (true, "6c0cd4b789ac2118defd3fa885bf6e10d9b8e451ab6b9e687ddfece7041dd8c3"), looks := false }, kinds := [], alts := [], laidByText := true, laidKinds := [.data], laidTests := true, laidLooks := .later }
def TopTranslationsUptoCardSaid : Prop := Claim7.holds Tryz.pinned (.plain (OpenSpec.upto topTranslationsSpec)) topTranslationsUptoCard

/-- THE SECOND FORM's CARD OF 'drosstop.TopOrders'. -/
def topOrdersUptoCard : Claim7 := { stood := { row := topOrdersUptoRow, standIns := [], harness := (true, "6c0cd4b789ac2118defd3fa885bf6e10d9b8e451ab6b9e687ddfece7041dd8c3"), looks := false }, kinds := [], alts := [], laidByText := true, laidKinds := [.data], laidTests := true, laidLooks := .later }
def TopOrdersUptoCardSaid : Prop := Claim7.holds Tryz.pinned (.plain (OpenSpec.upto topOrdersSpec)) topOrdersUptoCard

/-- THE SECOND FORM's CARD OF 'drosstop.TopPlain'. -/
def topPlainUptoCard : Claim7 := { stood := { row := topPlainUptoRow, standIns := [], harness := (true, "6c0cd4b789ac2118defd3fa885bf6e10d9b8e451ab6b9e687ddfece7041dd8c3"), looks := false }, kinds := [], alts := [], laidByText := true, laidKinds := [.data], laidTests := true, laidLooks := .later }
def TopPlainUptoCardSaid : Prop := Claim7.holds Tryz.pinned (.plain (OpenSpec.upto topPlainSpec)) topPlainUptoCard
end Rows
end Go.Proofs.YtbmbbljdpnpmeaaGreatDoor

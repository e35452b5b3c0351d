/-
  DERIVED. GIVEN WITH THE SEED: THE CARDS: each row of YtbdekdhdkdjejaaDoorRows.lean that lists a variable, with what it lists TIED to the program's text (the seventh form; the later family's looks); each row that meets fmt, with fmt's text TOLD by the authors' own Lean function (tested against real Go, not proved from fmt's source: count such statements apart). THE CARD IS WHAT COUNTS. Prove the row's statement (the work); the ties are given (YtbdekdhdkdjejaaDoorTie.lean); close each card by the builder's one call (the guide's Derived/Test/ToyasCard.lean, 'card_holds'). Laid BY PROGRAM, IN A SANDBOX (cutbox-door.mjs). By AI agents, Wed Nov 11 2026. No macro, syntax, notation, axiom, sorry.
-/
import Derived.Test.YtbdekdhdkdjejaaDoorRows
import GoSem.ClaimSeven
namespace Go.Proofs.YtbdekdhdkdjejaaDoor
namespace Rows

/-- THE TIED CARD OF 'quiltlaw22.MarkersShow'. -/
def markersShowCard : Claim7 := { stood := { row := markersShowRow, standIns := [], harness := (true, "bf47d84f304b8054a290477010568a3ebb27d7b03aec186942e55148fe67c346"), looks := false }, kinds := [], alts := [], laidByText := true, laidKinds := [.data, .pinned], laidTests := true, laidLooks := .later }
def MarkersShowCardSaid : Prop := Claim7.holds Tryd.pinned (.plain (OpenSpec.ofChange markersShowSpec)) markersShowCard

/-- THE TIED CARD OF 'quiltlaw22.MarkersParse'. -/
def markersParseCard : Claim7 := { stood := { row := markersParseRow, standIns := [], harness := (true, "bf47d84f304b8054a290477010568a3ebb27d7b03aec186942e55148fe67c346"), looks := false }, kinds := [], alts := [], laidByText := true, laidKinds := [.data, .pinned], laidTests := true, laidLooks := .later }
def MarkersParseCardSaid : Prop := Claim7.holds Tryd.pinned (.plain (OpenSpec.ofChange markersParseSpec)) markersParseCard

/-- THE TIED CARD OF 'quiltlaw22.MarkersQuote'. -/
def markersQuoteCard : Claim7 := { stood := { row := markersQuoteRow, standIns := [], harness := (true, "bf47d84f304b8054a290477010568a3ebb27d7b03aec186942e55148fe67c346"), looks := false }, kinds := [], alts := [], laidByText := true, laidKinds := [.data, .pinned], laidTests := true, laidLooks := .later }
def MarkersQuoteCardSaid : Prop := Claim7.holds Tryd.pinned (.plain (OpenSpec.ofChange markersQuoteSpec)) markersQuoteCard

/-- THE TIED CARD OF 'quiltlaw22.MarkersInverse'. -/
def markersInverseCard : Claim7 := { stood := { row := markersInverseRow, standIns := [], harness := (true, "bf47d84f304b8054a290477010568a3ebb27d7b03aec186942e55148fe67c346"), looks := false }, kinds := [], alts := [], laidByText := true, laidKinds := [.data, .pinned], laidTests := true, laidLooks := .later }
def MarkersInverseCardSaid : Prop := Claim7.holds Tryd.pinned (.plain (OpenSpec.ofChange markersInverseSpec)) markersInverseCard

/-- THE TIED CARD OF 'quiltlaw22.MarkersClean'. -/
def markersCleanCard : Claim7 := { stood := { row := markersCleanRow, standIns := [], harness := (true, "bf47d84f304b8054a290477010568a3ebb27d7b03aec186942e55148fe67c346"), looks := false }, kinds := [], alts := [], laidByText := true, laidKinds := [.data, .pinned], laidTests := true, laidLooks := .later }
def MarkersCleanCardSaid : Prop := Claim7.holds Tryd.pinned (.plain (OpenSpec.ofChange markersCleanSpec)) markersCleanCard

/-- THE TIED CARD OF 'quiltlaw22.MarkersParts'. -/
def markersPartsCard : Claim7 := { stood := { row := markersPartsRow, standIns := [], harness := (true, "bf47d84f304b8054a290477010568a3ebb27d7b03aec186942e55148fe67c346"), looks := false }, kinds := [], alts := [], laidByText := true, laidKinds := [.data, .pinned], laidTests := true, laidLooks := .later }
def MarkersPartsCardSaid : Prop := Claim7.holds Tryd.pinned (.plain (OpenSpec.ofChange markersPartsSpec)) markersPartsCard

/-- THE TIED CARD OF 'quiltlaw22.MarkersRoundTrip'. -/
def markersRoundTripCard : Claim7 := { stood := { row := markersRoundTripRow, standIns := [], harness := (true, "bf47d84f304b8054a290477010568a3ebb27d7b03aec186942e55148fe67c346"), looks := false }, kinds := [], alts := [], laidByText := true, laidKinds := [.data, .pinned], laidTests := true, laidLooks := .later }
def MarkersRoundTripCardSaid : Prop := Claim7.holds Tryd.pinned (.plain (OpenSpec.ofChange markersRoundTripSpec)) markersRoundTripCard

/-- THE TIED CARD OF 'quiltlaw22.MarkersExact'. -/
def markersExactCard : Claim7 := { stood := { row := markersExactRow, standIns := [], harness := (true, "bf47d84f304b8054a290477010568a3ebb27d7b03aec186942e55148fe67c346"), looks := false }, kinds := [], alts := [], laidByText := true, laidKinds := [.data, .pinned], laidTests := true, laidLooks := .later }
def MarkersExactCardSaid : Prop := Claim7.holds Tryd.pinned (.plain (OpenSpec.ofChange markersExactSpec)) markersExactCard

/-- THE SECOND FORM's CARD OF 'quiltlaw22.MarkersShow'. -/
def markersShowUptoCard : Claim7 := { stood := { row := markersShowUptoRow, standIns := [], harness := (true, "bf47d84f304b8054a290477010568a3ebb27d7b03aec186942e55148fe67c346"), looks := false }, kinds := [], alts := [], laidByText := true, laidKinds := [.data, .pinned], laidTests := true, laidLooks := .later }
def MarkersShowUptoCardSaid : Prop := Claim7.holds Tryd.pinned (.plain (OpenSpec.upto markersShowSpec)) markersShowUptoCard

/-- THE SECOND FORM's CARD OF 'quiltlaw22.MarkersParse'. -/
def markersParseUptoCard : Claim7 := { stood := { row := markersParseUptoRow, standIns := [], harness := (true, "bf47d84f304b8054a290477010568a3ebb27d7b03aec186942e55148fe67c346"), looks := false }, kinds := [], alts := [], laidByText := true, laidKinds := [.data, .pinned], laidTests := true, laidLooks := .later }
def MarkersParseUptoCardSaid : Prop := Claim7.holds Tryd.pinned (.plain (OpenSpec.upto markersParseSpec)) markersParseUptoCard

/-- THE SECOND FORM's CARD OF 'quiltlaw22.MarkersQuote'. -/
def markersQuoteUptoCard : Claim7 := { stood := { row := markersQuoteUptoRow, standIns := [], harness := (true, "bf47d84f304b8054a290477010568a3ebb27d7b03aec186942e55148fe67c346"), looks := false }, kinds := [], alts := [], laidByText := true, laidKinds := [.data, .pinned], laidTests := true, laidLooks := .later }
def MarkersQuoteUptoCardSaid : Prop := Claim7.holds Tryd.pinned (.plain (OpenSpec.upto markersQuoteSpec)) markersQuoteUptoCard

/-- THE SECOND FORM's CARD OF 'quiltlaw22.MarkersInverse'. -/
def markersInverseUptoCard : Claim7 := { stood := { row := markersInverseUptoRow, standIns := [], harness := (true, "bf47d84f304b8054a290477010568a3ebb27d7b03aec186942e55148fe67c346"), looks := false }, kinds := [], alts := [], laidByText := true, laidKinds := [.data, .pinned], laidTests := true, laidLooks := .later }
def MarkersInverseUptoCardSaid : Prop := Claim7.holds Tryd.pinned (.plain (OpenSpec.upto markersInverseSpec)) markersInverseUptoCard

/-- THE SECOND FORM's CARD OF 'quiltlaw22.MarkersClean'. -/
def markersCleanUptoCard : Claim7 := { stood := { row := markersCleanUptoRow, standIns := [], harness := (true, "bf47d84f304b8054a290477010568a3ebb27d7b03aec186942e55148fe67c346"), looks := false }, kinds := [], alts := [], laidByText := true, laidKinds := [.data, .pinned], laidTests := true, laidLooks := .later }
def MarkersCleanUptoCardSaid : Prop := Claim7.holds Tryd.pinned (.plain (OpenSpec.upto markersCleanSpec)) markersCleanUptoCard

/-- THE SECOND FORM's CARD OF 'quiltlaw22.MarkersParts'. -/
def markersPartsUptoCard : Claim7 := { stood := { row := markersPartsUptoRow, standIns := [], harness := (true, "bf47d84f304b8054a290477010568a3ebb27d7b03aec186942e55148fe67c346"), looks := false }, kinds := [], alts := [], laidByText := true, laidKinds := [.data, .pinned], laidTests := true, laidLooks := .later }
def MarkersPartsUptoCardSaid : Prop := Claim7.holds Tryd.pinned (.plain (OpenSpec.upto markersPartsSpec)) markersPartsUptoCard

/-- THE SECOND FORM's CARD OF 'quiltlaw22.MarkersRoundTrip'. -/
def markersRoundTripUptoCard : Claim7 := { stood := { row := markersRoundTripUptoRow, standIns := [], harness := (true, "bf47d84f304b8054a290477010568a3ebb27d7b03aec186942e55148fe67c346"), looks := false }, kinds := [], alts := [], laidByText := true, laidKinds := [.data, .pinned], laidTests := true, laidLooks := .later }
def MarkersRoundTripUptoCardSaid : Prop := Claim7.holds Tryd.pinned (.plain (OpenSpec.upto markersRoundTripSpec)) markersRoundTripUptoCard

/-- THE SECOND FORM's CARD OF 'quiltlaw22.MarkersExact'. -/
def markersExactUptoCard : Claim7 := { stood := { row := markersExactUptoRow, standIns := [], harness := (true, "bf47d84f304b8054a290477010568a3ebb27d7b03aec186942e55148fe67c346"), looks := false }, kinds := [], alts := [], laidByText := true, laidKinds := [.data, .pinned], laidTests := true, laidLooks := .later }
def MarkersExactUptoCardSaid : Prop := Claim7.holds Tryd.pinned (.plain (OpenSpec.upto markersExactSpec)) markersExactUptoCard
end Rows
end Go.Proofs.YtbdekdhdkdjejaaDoor

/-
  DERIVED. GIVEN WITH THE SEED: THE CARDS: each row of YtckbkhfaahpanaaGreatDoorRows.lean that lists a variable, with what it lists TIED to the program's text (the seventh form; the later family's looks); each row that meets fmt, with fmt's text TOLD by the authors' own Lean function (tested against real Go, not proved from fmt's source: count such statements apart). THE CARD IS WHAT COUNTS. Prove the row's statement (the work); the ties are given (YtckbkhfaahpanaaGreatDoorTie.lean); close each card by the builder's one call (the guide's Derived/Test/ToyasCard.lean, 'card_holds'). Laid BY PROGRAM, IN A SANDBOX (cutbox-door.mjs). By AI agents, Wed Nov 11 2026. No macro, syntax, notation, axiom, sorry.
-/
import Derived.Test.YtckbkhfaahpanaaGreatDoorRows
import GoSem.ClaimSeven
namespace Go.Proofs.YtckbkhfaahpanaaGreatDoor
namespace Rows

/-- THE TIED CARD OF 'quiltlaw38.BlameEvents'. -/
def blameEventsCard : Claim7 := { stood := { row := blameEventsRow, standIns := [], harness := (true, "343fcf97232be47009b8d774ce4dc26f37c5a443ff9b24f7dda311871f22b9f2"), looks := false }, kinds := [], alts := [], laidByText := true, laidKinds := [.data, .data, .data], laidTests := true, laidLooks := .later }
def BlameEventsCardSaid : Prop := Claim7.holds Tryz.pinned (.plain (OpenSpec.ofChange blameEventsSpec)) blameEventsCard

/-- THE TIED CARD OF 'quiltlaw38.BlameNames'. -/
def blameNamesCard : Claim7 := { stood := { row := blameNamesRow, standIns := [], harness := (true, "343fcf97232be47009b8d774ce4dc26f37c5a443ff9b24f7dda311871f22b9f2"), looks := false }, kinds := [], alts := [], laidByText := true, laidKinds := [.data, .data, .data], laidTests := true, laidLooks := .later }
def BlameNamesCardSaid : Prop := Claim7.holds Tryz.pinned (.plain (OpenSpec.ofChange blameNamesSpec)) blameNamesCard

/-- THE SECOND FORM's CARD OF 'quiltlaw38.BlameEvents'. -/
def blameEventsUptoCard : Claim7 := { stood := { row := blameEventsUptoRow, standIns := [], harness := (true, "343fcf97232be47009b8d774ce4dc26f37c5a443ff9b24f7dda311871f22b9f2"), looks := false }, kinds := [], alts := [], laidByText := true, laidKinds := [.data, .data, .data], laidTests := true, laidLooks := .later }
def BlameEventsUptoCardSaid : Prop := Claim7.holds Tryz.pinned (.plain (OpenSpec.upto blameEventsSpec)) blameEventsUptoCard

/-- THE SECOND FORM's CARD OF 'quiltlaw38.BlameNames'. -/
def blameNamesUptoCard : Claim7 := { stood := { row := blameNamesUptoRow, standIns := [], harness := (true, "343fcf97232be47009b8d774ce4dc26f37c5a443ff9b24f7dda311871f22b9f2"), looks := false }, kinds := [], alts := [], laidByText := true, laidKinds := [.data, .data, .data], laidTests := true, laidLooks := .later }
def BlameNamesUptoCardSaid : Prop := Claim7.holds Tryz.pinned (.plain (OpenSpec.upto blameNamesSpec)) blameNamesUptoCard
end Rows
end Go.Proofs.YtckbkhfaahpanaaGreatDoor

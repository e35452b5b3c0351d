/-
  DERIVED. GIVEN WITH THE SEED: THE CARDS: each row of YtkicailcmamaiaaGreatDoorRows.lean that lists a variable, with what it lists TIED to the program's text (the seventh form; the later family's looks); each row that meets fmt, with fmt's text TOLD by the authors' own Lean function (tested against real Go, not proved from fmt's source: count such statements apart). THE CARD IS WHAT COUNTS. Prove the row's statement (the work); the ties are given (YtkicailcmamaiaaGreatDoorTie.lean); close each card by the builder's one call (the guide's Derived/Test/ToyasCard.lean, 'card_holds'). Laid BY PROGRAM, IN A SANDBOX (cutbox-door.mjs). By AI agents, Wed Nov 11 2026. No macro, syntax, notation, axiom, sorry.
-/
import Derived.Test.YtkicailcmamaiaaGreatDoorRows
import GoSem.ClaimSeven
namespace Go.Proofs.YtkicailcmamaiaaGreatDoor
namespace Rows

/-- THE TIED CARD OF 'quiltlaw38.BlameHistory'. -/
def blameHistoryCard : Claim7 := { stood := { row := blameHistoryRow, standIns := [], harness := (true, "76f97180ece2c4e4359bbf45e35f18ef9acf59ce2d0b594d8599b5dc55ca3295"), looks := false }, kinds := [], alts := [], laidByText := true, laidKinds := [.data, .data, .data], laidTests := true, laidLooks := .later }
def BlameHistoryCardSaid : Prop := Claim7.holds Tryz.pinned (.plain (OpenSpec.ofChange blameHistorySpec)) blameHistoryCard

/-- THE SECOND FORM's CARD OF 'quiltlaw38.BlameHistory'. -/
def blameHistoryUptoCard : Claim7 := { stood := { row := blameHistoryUptoRow, standIns := [], harness := (true, "76f97180ece2c4e4359bbf45e35f18ef9acf59ce2d0b594d8599b5dc55ca3295"), looks := false }, kinds := [], alts := [], laidByText := true, laidKinds := [.data, .data, .data], laidTests := true, laidLooks := .later }
def BlameHistoryUptoCardSaid : Prop := Claim7.holds Tryz.pinned (.plain (OpenSpec.upto blameHistorySpec)) blameHistoryUptoCard
end Rows
end Go.Proofs.YtkicailcmamaiaaGreatDoor

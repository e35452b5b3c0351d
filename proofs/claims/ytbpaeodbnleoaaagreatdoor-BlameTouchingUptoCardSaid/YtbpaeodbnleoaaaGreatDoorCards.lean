/-
  DERIVED. GIVEN WITH THE SEED: THE CARDS: each row of YtbpaeodbnleoaaaGreatDoorRows.lean that lists a variable, with what it lists TIED to the program's text (the seventh form; the later family's looks); each row that meets fmt, with fmt's text TOLD by the authors' own Lean function (tested against real Go, not proved from fmt's source: count such statements apart). THE CARD IS WHAT COUNTS. Prove the row's statement (the work); the ties are given (YtbpaeodbnleoaaaGreatDoorTie.lean); close each card by the builder's one call (the guide's Derived/Test/ToyasCard.lean, 'card_holds'). Laid BY PROGRAM, IN A SANDBOX (cutbox-door.mjs). By AI agents, Wed Nov 11 2026. No macro, syntax, notation, axiom, sorry.
-/
import Derived.Test.YtbpaeodbnleoaaaGreatDoorRows
import GoSem.ClaimSeven
namespace Go.Proofs.YtbpaeodbnleoaaaGreatDoor
namespace Rows

/-- THE TIED CARD OF 'quiltlaw38.BlameTouching'. -/
def blameTouchingCard : Claim7 := { stood := { row := blameTouchingRow, standIns := [], harness := (true, "2367d5516dab4baddf558b8182d670f3adc0c3957bc29a530eb26363f1a84b30"), looks := false }, kinds := [], alts := [], laidByText := true, laidKinds := [.data, .data, .data], laidTests := true, laidLooks := .later }
def BlameTouchingCardSaid : Prop := Claim7.holds Tryz.pinned (.plain (OpenSpec.ofChange blameTouchingSpec)) blameTouchingCard

/-- THE SECOND FORM's CARD OF 'quiltlaw38.BlameTouching'. -/
def blameTouchingUptoCard : Claim7 := { stood := { row := blameTouchingUptoRow, standIns := [], harness := (true, "2367d5516dab4baddf558b8182d670f3adc0c3957bc29a530eb26363f1a84b30"), looks := false }, kinds := [], alts := [], laidByText := true, laidKinds := [.data, .data, .data], laidTests := true, laidLooks := .later }
def BlameTouchingUptoCardSaid : Prop := Claim7.holds Tryz.pinned (.plain (OpenSpec.upto blameTouchingSpec)) blameTouchingUptoCard
end Rows
end Go.Proofs.YtbpaeodbnleoaaaGreatDoor

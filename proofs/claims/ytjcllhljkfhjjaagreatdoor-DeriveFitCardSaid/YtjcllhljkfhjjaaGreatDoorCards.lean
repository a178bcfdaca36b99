/-
  DERIVED. GIVEN WITH THE SEED: THE CARDS: each row of YtjcllhljkfhjjaaGreatDoorRows.lean that lists a variable, with what it lists TIED to the program's text (the seventh form; the later family's looks); each row that meets fmt, with fmt's text TOLD by the authors' own Lean function (tested against real Go, not proved from fmt's source: count such statements apart). THE CARD IS WHAT COUNTS. Prove the row's statement (the work); the ties are given (YtjcllhljkfhjjaaGreatDoorTie.lean); close each card by the builder's one call (the guide's Derived/Test/ToyasCard.lean, 'card_holds'). Laid BY PROGRAM, IN A SANDBOX (cutbox-door.mjs). By AI agents, Wed Nov 11 2026. No macro, syntax, notation, axiom, sorry.
-/
import Derived.Test.YtjcllhljkfhjjaaGreatDoorRows
import GoSem.ClaimSeven
namespace Go.Proofs.YtjcllhljkfhjjaaGreatDoor
namespace Rows

/-- THE TIED CARD OF 'tmesislaw19.DeriveFit'. -/
def deriveFitCard : Claim7 := { stood := { row := deriveFitRow, standIns := [], harness := (true, "b078dcb03dd4aa73d1fe5d50668b7a20e0dd3a08536f4d8c087b825179a8670a"), looks := false }, kinds := [], alts := [], laidByText := true, laidKinds := [.data, .data, .pinned], laidTests := true, laidLooks := .later }
def DeriveFitCardSaid : Prop := Claim7.holds Tryz.pinned (.plain (OpenSpec.ofChange deriveFitSpec)) deriveFitCard

/-- THE TIED CARD OF 'tmesislaw19.DeriveBrackets'. -/
def deriveBracketsCard : Claim7 := { stood := { row := deriveBracketsRow, standIns := [], harness := (true, "b078dcb03dd4aa73d1fe5d50668b7a20e0dd3a08536f4d8c087b825179a8670a"), looks := false }, kinds := [], alts := [], laidByText := true, laidKinds := [.data, .data, .pinned], laidTests := true, laidLooks := .later }
def DeriveBracketsCardSaid : Prop := Claim7.holds Tryz.pinned (.plain (OpenSpec.ofChange deriveBracketsSpec)) deriveBracketsCard

/-- THE SECOND FORM's CARD OF 'tmesislaw19.DeriveFit'. -/
def deriveFitUptoCard : Claim7 := { stood := { row := deriveFitUptoRow, standIns := [], harness := (true, "b078dcb03dd4aa73d1fe5d50668b7a20e0dd3a08536f4d8c087b825179a8670a"), looks := false }, kinds := [], alts := [], laidByText := true, laidKinds := [.data, .data, .pinned], laidTests := true, laidLooks := .later }
def DeriveFitUptoCardSaid : Prop := Claim7.holds Tryz.pinned (.plain (OpenSpec.upto deriveFitSpec)) deriveFitUptoCard

/-- THE SECOND FORM's CARD OF 'tmesislaw19.DeriveBrackets'. -/
def deriveBracketsUptoCard : Claim7 := { stood := { row := deriveBracketsUptoRow, standIns := [], harness := (true, "b078dcb03dd4aa73d1fe5d50668b7a20e0dd3a08536f4d8c087b825179a8670a"), looks := false }, kinds := [], alts := [], laidByText := true, laidKinds := [.data, .data, .pinned], laidTests := true, laidLooks := .later }
def DeriveBracketsUptoCardSaid : Prop := Claim7.holds Tryz.pinned (.plain (OpenSpec.upto deriveBracketsSpec)) deriveBracketsUptoCard
end Rows
end Go.Proofs.YtjcllhljkfhjjaaGreatDoor

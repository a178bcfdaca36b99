/-
  DERIVED. GIVEN WITH THE SEED: THE CARDS: each row of YtpidbhbmamjbpaaDoorRows.lean that lists a variable, with what it lists TIED to the program's text (the seventh form; the later family's looks); each row that meets fmt, with fmt's text TOLD by the authors' own Lean function (tested against real Go, not proved from fmt's source: count such statements apart). THE CARD IS WHAT COUNTS. Prove the row's statement (the work); the ties are given (YtpidbhbmamjbpaaDoorTie.lean); close each card by the builder's one call (the guide's Derived/Test/ToyasCard.lean, 'card_holds'). Laid BY PROGRAM, IN A SANDBOX (cutbox-door.mjs). By AI agents, Wed Nov 11 2026. No macro, syntax, notation, axiom, sorry.
-/
import Derived.Test.YtpidbhbmamjbpaaDoorRows
import GoSem.ClaimSeven
namespace Go.Proofs.YtpidbhbmamjbpaaDoor
namespace Rows

/-- THE TIED CARD OF 'tmesislaw19.DeriveSigns'. -/
def deriveSignsCard : Claim7 := { stood := { row := deriveSignsRow, standIns := [], harness := (true, "212fba7cd7f83b53a9f867a1cb5c5bcf7e81c7cb6f61f907287e02ca1b9409b2"), looks := false }, kinds := [], alts := [], laidByText := true, laidKinds := [.data, .data, .pinned], laidTests := true, laidLooks := .later }
def DeriveSignsCardSaid : Prop := Claim7.holds Tryd.pinned (.plain (OpenSpec.ofChange deriveSignsSpec)) deriveSignsCard

/-- THE TIED CARD OF 'tmesislaw19.DeriveLeaves'. -/
def deriveLeavesCard : Claim7 := { stood := { row := deriveLeavesRow, standIns := [], harness := (true, "212fba7cd7f83b53a9f867a1cb5c5bcf7e81c7cb6f61f907287e02ca1b9409b2"), looks := false }, kinds := [], alts := [], laidByText := true, laidKinds := [.data, .data, .pinned], laidTests := true, laidLooks := .later }
def DeriveLeavesCardSaid : Prop := Claim7.holds Tryd.pinned (.plain (OpenSpec.ofChange deriveLeavesSpec)) deriveLeavesCard

/-- THE TIED CARD OF 'tmesislaw19.DeriveChain'. -/
def deriveChainCard : Claim7 := { stood := { row := deriveChainRow, standIns := [], harness := (true, "212fba7cd7f83b53a9f867a1cb5c5bcf7e81c7cb6f61f907287e02ca1b9409b2"), looks := false }, kinds := [], alts := [], laidByText := true, laidKinds := [.data, .data, .pinned], laidTests := true, laidLooks := .later }
def DeriveChainCardSaid : Prop := Claim7.holds Tryd.pinned (.plain (OpenSpec.ofChange deriveChainSpec)) deriveChainCard

/-- THE SECOND FORM's CARD OF 'tmesislaw19.DeriveSigns'. -/
def deriveSignsUptoCard : Claim7 := { stood := { row := deriveSignsUptoRow, standIns := [], harness := (true, "212fba7cd7f83b53a9f867a1cb5c5bcf7e81c7cb6f61f907287e02ca1b9409b2"), looks := false }, kinds := [], alts := [], laidByText := true, laidKinds := [.data, .data, .pinned], laidTests := true, laidLooks := .later }
def DeriveSignsUptoCardSaid : Prop := Claim7.holds Tryd.pinned (.plain (OpenSpec.upto deriveSignsSpec)) deriveSignsUptoCard

/-- THE SECOND FORM's CARD OF 'tmesislaw19.DeriveLeaves'. -/
def deriveLeavesUptoCard : Claim7 := { stood := { row := deriveLeavesUptoRow, standIns := [], harness := (true, "212fba7cd7f83b53a9f867a1cb5c5bcf7e81c7cb6f61f907287e02ca1b9409b2"), looks := false }, kinds := [], alts := [], laidByText := true, laidKinds := [.data, .data, .pinned], laidTests := true, laidLooks := .later }
def DeriveLeavesUptoCardSaid : Prop := Claim7.holds Tryd.pinned (.plain (OpenSpec.upto deriveLeavesSpec)) deriveLeavesUptoCard

/-- THE SECOND FORM's CARD OF 'tmesislaw19.DeriveChain'. -/
def deriveChainUptoCard : Claim7 := { stood := { row := deriveChainUptoRow, standIns := [], harness := (true, "212fba7cd7f83b53a9f867a1cb5c5bcf7e81c7cb6f61f907287e02ca1b9409b2"), looks := false }, kinds := [], alts := [], laidByText := true, laidKinds := [.data, .data, .pinned], laidTests := true, laidLooks := .later }
def DeriveChainUptoCardSaid : Prop := Claim7.holds Tryd.pinned (.plain (OpenSpec.upto deriveChainSpec)) deriveChainUptoCard
end Rows
end Go.Proofs.YtpidbhbmamjbpaaDoor

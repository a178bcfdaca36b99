/-
  DERIVED. GIVEN WITH THE SEED: THE CARDS: each row of YtnhalnblbfgbkaaDoorRows.lean that lists a variable, with what it lists TIED to the program's text (the seventh form; the later family's looks); each row that meets fmt, with fmt's text TOLD by the authors' own Lean function (tested against real Go, not proved from fmt's source: count such statements apart). THE CARD IS WHAT COUNTS. Prove the row's statement (the work); the ties are given (YtnhalnblbfgbkaaDoorTie.lean); close each card by the builder's one call (the guide's Derived/Test/ToyasCard.lean, 'card_holds'). Laid BY PROGRAM, IN A SANDBOX (cutbox-door.mjs). By AI agents, Wed Nov 11 2026. No macro, syntax, notation, axiom, sorry.
-/
import Derived.Test.YtnhalnblbfgbkaaDoorRows
import GoSem.ClaimSeven
namespace Go.Proofs.YtnhalnblbfgbkaaDoor
namespace Rows

/-- THE TIED CARD OF 'tmesislaw17.FitsAll'. -/
def fitsAllCard : Claim7 := { stood := { row := fitsAllRow, standIns := [], harness := (true, "c44f67a7040e1e7e648c15c5cab739c2e8340256c293b741bc9a79fe16c4d103"), looks := false }, kinds := [], alts := [], laidByText := true, laidKinds := [.data, .data, .pinned], laidTests := true, laidLooks := .later }
def FitsAllCardSaid : Prop := Claim7.holds Tryd.pinned (.plain (OpenSpec.ofChange fitsAllSpec)) fitsAllCard

/-- THE TIED CARD OF 'tmesislaw15.DeclWords'. -/
def declWordsCard : Claim7 := { stood := { row := declWordsRow, standIns := [], harness := (true, "c44f67a7040e1e7e648c15c5cab739c2e8340256c293b741bc9a79fe16c4d103"), looks := false }, kinds := [], alts := [], laidByText := true, laidKinds := [.data, .data, .data, .pinned], laidTests := true, laidLooks := .later }
def DeclWordsCardSaid : Prop := Claim7.holds Tryd.pinned (.plain (OpenSpec.ofChange declWordsSpec)) declWordsCard

/-- THE TIED CARD OF 'tmesislaw15.DeclEdges'. -/
def declEdgesCard : Claim7 := { stood := { row := declEdgesRow, standIns := [], harness := (true, "c44f67a7040e1e7e648c15c5cab739c2e8340256c293b741bc9a79fe16c4d103"), looks := false }, kinds := [], alts := [], laidByText := true, laidKinds := [.data, .data, .data, .pinned], laidTests := true, laidLooks := .later }
def DeclEdgesCardSaid : Prop := Claim7.holds Tryd.pinned (.plain (OpenSpec.ofChange declEdgesSpec)) declEdgesCard

/-- THE TIED CARD OF 'tmesislaw19.DeriveSigns'. -/
def deriveSignsCard : Claim7 := { stood := { row := deriveSignsRow, standIns := [], harness := (true, "c44f67a7040e1e7e648c15c5cab739c2e8340256c293b741bc9a79fe16c4d103"), looks := false }, kinds := [], alts := [], laidByText := true, laidKinds := [.data, .data, .pinned], laidTests := true, laidLooks := .later }
def DeriveSignsCardSaid : Prop := Claim7.holds Tryd.pinned (.plain (OpenSpec.ofChange deriveSignsSpec)) deriveSignsCard

/-- THE TIED CARD OF 'tmesislaw19.DeriveLeaves'. -/
def deriveLeavesCard : Claim7 := { stood := { row := deriveLeavesRow, standIns := [], harness := (true, "c44f67a7040e1e7e648c15c5cab739c2e8340256c293b741bc9a79fe16c4d103"), looks := false }, kinds := [], alts := [], laidByText := true, laidKinds := [.data, .data, .pinned], laidTests := true, laidLooks := .later }
def DeriveLeavesCardSaid : Prop := Claim7.holds Tryd.pinned (.plain (OpenSpec.ofChange deriveLeavesSpec)) deriveLeavesCard

/-- THE TIED CARD OF 'tmesislaw19.DeriveChain'. -/
def deriveChainCard : Claim7 := { stood := { row := deriveChainRow, standIns := [], harness := (true, "c44f67a7040e1e7e648c15c5cab739c2e8340256c293b741bc9a79fe16c4d103"), looks := false }, kinds := [], alts := [], laidByText := true, laidKinds := [.data, .data, .pinned], laidTests := true, laidLooks := .later }
def DeriveChainCardSaid : Prop := Claim7.holds Tryd.pinned (.plain (OpenSpec.ofChange deriveChainSpec)) deriveChainCard

/-- THE SECOND FORM's CARD OF 'tmesislaw17.FitsAll'. -/
def fitsAllUptoCard : Claim7 := { stood := { row := fitsAllUptoRow, standIns := [], harness := (true, "c44f67a7040e1e7e648c15c5cab739c2e8340256c293b741bc9a79fe16c4d103"), looks := false }, kinds := [], alts := [], laidByText := true, laidKinds := [.data, .data, .pinned], laidTests := true, laidLooks := .later }
def FitsAllUptoCardSaid : Prop := Claim7.holds Tryd.pinned (.plain (OpenSpec.upto fitsAllSpec)) fitsAllUptoCard

/-- THE SECOND FORM's CARD OF 'tmesislaw15.DeclWords'. -/
def declWordsUptoCard : Claim7 := { stood := { row := declWordsUptoRow, standIns := [], harness := (true, "c44f67a7040e1e7e648c15c5cab739c2e8340256c293b741bc9a79fe16c4d103"), looks := false }, kinds := [], alts := [], laidByText := true, laidKinds := [.data, .data, .data, .pinned], laidTests := true, laidLooks := .later }
def DeclWordsUptoCardSaid : Prop := Claim7.holds Tryd.pinned (.plain (OpenSpec.upto declWordsSpec)) declWordsUptoCard

/-- THE SECOND FORM's CARD OF 'tmesislaw15.DeclEdges'. -/
def declEdgesUptoCard : Claim7 := { stood := { row := declEdgesUptoRow, standIns := [], harness := (true, "c44f67a7040e1e7e648c15c5cab739c2e8340256c293b741bc9a79fe16c4d103"), looks := false }, kinds := [], alts := [], laidByText := true, laidKinds := [.data, .data, .data, .pinned], laidTests := true, laidLooks := .later }
def DeclEdgesUptoCardSaid : Prop := Claim7.holds Tryd.pinned (.plain (OpenSpec.upto declEdgesSpec)) declEdgesUptoCard

/-- THE SECOND FORM's CARD OF 'tmesislaw19.DeriveSigns'. -/
def deriveSignsUptoCard : Claim7 := { stood := { row := deriveSignsUptoRow, standIns := [], harness := (true, "c44f67a7040e1e7e648c15c5cab739c2e8340256c293b741bc9a79fe16c4d103"), looks := false }, kinds := [], alts := [], laidByText := true, laidKinds := [.data, .data, .pinned], laidTests := true, laidLooks := .later }
def DeriveSignsUptoCardSaid : Prop := Claim7.holds Tryd.pinned (.plain (OpenSpec.upto deriveSignsSpec)) deriveSignsUptoCard

/-- THE SECOND FORM's CARD OF 'tmesislaw19.DeriveLeaves'. -/
def deriveLeavesUptoCard : Claim7 := { stood := { row := deriveLeavesUptoRow, standIns := [], harness := (true, "c44f67a7040e1e7e648c15c5cab739c2e8340256c293b741bc9a79fe16c4d103"), looks := false }, kinds := [], alts := [], laidByText := true, laidKinds := [.data, .data, .pinned], laidTests := true, laidLooks := .later }
def DeriveLeavesUptoCardSaid : Prop := Claim7.holds Tryd.pinned (.plain (OpenSpec.upto deriveLeavesSpec)) deriveLeavesUptoCard

/-- THE SECOND FORM's CARD OF 'tmesislaw19.DeriveChain'. -/
def deriveChainUptoCard : Claim7 := { stood := { row := deriveChainUptoRow, standIns := [], harness := (true, "c44f67a7040e1e7e648c15c5cab739c2e8340256c293b741bc9a79fe16c4d103"), looks := false }, kinds := [], alts := [], laidByText := true, laidKinds := [.data, .data, .pinned], laidTests := true, laidLooks := .later }
def DeriveChainUptoCardSaid : Prop := Claim7.holds Tryd.pinned (.plain (OpenSpec.upto deriveChainSpec)) deriveChainUptoCard
end Rows
end Go.Proofs.YtnhalnblbfgbkaaDoor

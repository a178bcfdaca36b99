/-
  DERIVED. GIVEN WITH THE SEED: THE CARDS: each row of YtgbefhljbdjncaaDoorRows.lean that lists a variable, with what it lists TIED to the program's text (the seventh form; the later family's looks); each row that meets fmt, with fmt's text TOLD by the authors' own Lean function (tested against real Go, not proved from fmt's source: count such statements apart). THE CARD IS WHAT COUNTS. Prove the row's statement (the work); the ties are given (YtgbefhljbdjncaaDoorTie.lean); close each card by the builder's one call (the guide's Derived/Test/ToyasCard.lean, 'card_holds'). Laid BY PROGRAM, IN A SANDBOX (cutbox-door.mjs). By AI agents, Wed Nov 11 2026. No macro, syntax, notation, axiom, sorry.
-/
import Derived.Test.YtgbefhljbdjncaaDoorRows
import GoSem.ClaimSeven
namespace Go.Proofs.YtgbefhljbdjncaaDoor
namespace Rows

/-- THE TIED CARD OF 'tmesislaw11.ShapeEnds'. -/
def shapeEndsCard : Claim7 := { stood := { row := shapeEndsRow, standIns := [], harness := (true, "6456cbc1fc1d163e785213f2c915fd981d564623b269f1048007a1a865430f4a"), looks := false }, kinds := [], alts := [], laidByText := true, laidKinds := [.data, .data, .pinned], laidTests := true, laidLooks := .later }
def ShapeEndsCardSaid : Prop := Claim7.holds Tryd.pinned (.plain (OpenSpec.ofChange shapeEndsSpec)) shapeEndsCard

/-- THE TIED CARD OF 'tmesislaw17.FitsOnce'. -/
def fitsOnceCard : Claim7 := { stood := { row := fitsOnceRow, standIns := [], harness := (true, "6456cbc1fc1d163e785213f2c915fd981d564623b269f1048007a1a865430f4a"), looks := false }, kinds := [], alts := [], laidByText := true, laidKinds := [.data, .data, .pinned], laidTests := true, laidLooks := .later }
def FitsOnceCardSaid : Prop := Claim7.holds Tryd.pinned (.plain (OpenSpec.ofChange fitsOnceSpec)) fitsOnceCard

/-- THE TIED CARD OF 'tmesislaw17.FitsThrough'. -/
def fitsThroughCard : Claim7 := { stood := { row := fitsThroughRow, standIns := [], harness := (true, "6456cbc1fc1d163e785213f2c915fd981d564623b269f1048007a1a865430f4a"), looks := false }, kinds := [], alts := [], laidByText := true, laidKinds := [.data, .data, .pinned], laidTests := true, laidLooks := .later }
def FitsThroughCardSaid : Prop := Claim7.holds Tryd.pinned (.plain (OpenSpec.ofChange fitsThroughSpec)) fitsThroughCard

/-- THE TIED CARD OF 'tmesislaw17.FitsCross'. -/
def fitsCrossCard : Claim7 := { stood := { row := fitsCrossRow, standIns := [], harness := (true, "6456cbc1fc1d163e785213f2c915fd981d564623b269f1048007a1a865430f4a"), looks := false }, kinds := [], alts := [], laidByText := true, laidKinds := [.data, .data, .pinned], laidTests := true, laidLooks := .later }
def FitsCrossCardSaid : Prop := Claim7.holds Tryd.pinned (.plain (OpenSpec.ofChange fitsCrossSpec)) fitsCrossCard

/-- THE TIED CARD OF 'tmesislaw17.FitsClosed'. -/
def fitsClosedCard : Claim7 := { stood := { row := fitsClosedRow, standIns := [], harness := (true, "6456cbc1fc1d163e785213f2c915fd981d564623b269f1048007a1a865430f4a"), looks := false }, kinds := [], alts := [], laidByText := true, laidKinds := [.data, .data, .pinned], laidTests := true, laidLooks := .later }
def FitsClosedCardSaid : Prop := Claim7.holds Tryd.pinned (.plain (OpenSpec.ofChange fitsClosedSpec)) fitsClosedCard

/-- THE TIED CARD OF 'tmesislaw17.FitsAll'. -/
def fitsAllCard : Claim7 := { stood := { row := fitsAllRow, standIns := [], harness := (true, "6456cbc1fc1d163e785213f2c915fd981d564623b269f1048007a1a865430f4a"), looks := false }, kinds := [], alts := [], laidByText := true, laidKinds := [.data, .data, .pinned], laidTests := true, laidLooks := .later }
def FitsAllCardSaid : Prop := Claim7.holds Tryd.pinned (.plain (OpenSpec.ofChange fitsAllSpec)) fitsAllCard

/-- THE TIED CARD OF 'tmesislaw17.FitsLeaves'. -/
def fitsLeavesCard : Claim7 := { stood := { row := fitsLeavesRow, standIns := [], harness := (true, "6456cbc1fc1d163e785213f2c915fd981d564623b269f1048007a1a865430f4a"), looks := false }, kinds := [], alts := [], laidByText := true, laidKinds := [.data, .data, .pinned], laidTests := true, laidLooks := .later }
def FitsLeavesCardSaid : Prop := Claim7.holds Tryd.pinned (.plain (OpenSpec.ofChange fitsLeavesSpec)) fitsLeavesCard

/-- THE TIED CARD OF 'tmesislaw11.ShapeAll'. -/
def shapeAllCard : Claim7 := { stood := { row := shapeAllRow, standIns := [], harness := (true, "6456cbc1fc1d163e785213f2c915fd981d564623b269f1048007a1a865430f4a"), looks := false }, kinds := [], alts := [], laidByText := true, laidKinds := [.data, .data, .pinned], laidTests := true, laidLooks := .later }
def ShapeAllCardSaid : Prop := Claim7.holds Tryd.pinned (.plain (OpenSpec.ofChange shapeAllSpec)) shapeAllCard

/-- THE TIED CARD OF 'tmesislaw11.ShapeBack'. -/
def shapeBackCard : Claim7 := { stood := { row := shapeBackRow, standIns := [], harness := (true, "6456cbc1fc1d163e785213f2c915fd981d564623b269f1048007a1a865430f4a"), looks := false }, kinds := [], alts := [], laidByText := true, laidKinds := [.data, .data, .pinned], laidTests := true, laidLooks := .later }
def ShapeBackCardSaid : Prop := Claim7.holds Tryd.pinned (.plain (OpenSpec.ofChange shapeBackSpec)) shapeBackCard

/-- THE TIED CARD OF 'tmesislaw11.ShapeMade'. -/
def shapeMadeCard : Claim7 := { stood := { row := shapeMadeRow, standIns := [], harness := (true, "6456cbc1fc1d163e785213f2c915fd981d564623b269f1048007a1a865430f4a"), looks := false }, kinds := [], alts := [], laidByText := true, laidKinds := [.data, .data, .pinned], laidTests := true, laidLooks := .later }
def ShapeMadeCardSaid : Prop := Claim7.holds Tryd.pinned (.plain (OpenSpec.ofChange shapeMadeSpec)) shapeMadeCard

/-- THE TIED CARD OF 'tmesislaw12.OperAll'. -/
def operAllCard : Claim7 := { stood := { row := operAllRow, standIns := [], harness := (true, "6456cbc1fc1d163e785213f2c915fd981d564623b269f1048007a1a865430f4a"), looks := false }, kinds := [], alts := [], laidByText := true, laidKinds := [.data, .data, .data, .pinned], laidTests := true, laidLooks := .later }
def OperAllCardSaid : Prop := Claim7.holds Tryd.pinned (.plain (OpenSpec.ofChange operAllSpec)) operAllCard

/-- THE TIED CARD OF 'tmesislaw12.OperSimple'. -/
def operSimpleCard : Claim7 := { stood := { row := operSimpleRow, standIns := [], harness := (true, "6456cbc1fc1d163e785213f2c915fd981d564623b269f1048007a1a865430f4a"), looks := false }, kinds := [], alts := [], laidByText := true, laidKinds := [.data, .data, .data, .pinned], laidTests := true, laidLooks := .later }
def OperSimpleCardSaid : Prop := Claim7.holds Tryd.pinned (.plain (OpenSpec.ofChange operSimpleSpec)) operSimpleCard

/-- THE TIED CARD OF 'tmesislaw12.OperFirst'. -/
def operFirstCard : Claim7 := { stood := { row := operFirstRow, standIns := [], harness := (true, "6456cbc1fc1d163e785213f2c915fd981d564623b269f1048007a1a865430f4a"), looks := false }, kinds := [], alts := [], laidByText := true, laidKinds := [.data, .data, .data, .pinned], laidTests := true, laidLooks := .later }
def OperFirstCardSaid : Prop := Claim7.holds Tryd.pinned (.plain (OpenSpec.ofChange operFirstSpec)) operFirstCard

/-- THE TIED CARD OF 'tmesislaw12.OperSides'. -/
def operSidesCard : Claim7 := { stood := { row := operSidesRow, standIns := [], harness := (true, "6456cbc1fc1d163e785213f2c915fd981d564623b269f1048007a1a865430f4a"), looks := false }, kinds := [], alts := [], laidByText := true, laidKinds := [.data, .data, .data, .pinned], laidTests := true, laidLooks := .later }
def OperSidesCardSaid : Prop := Claim7.holds Tryd.pinned (.plain (OpenSpec.ofChange operSidesSpec)) operSidesCard

/-- THE SECOND FORM's CARD OF 'tmesislaw11.ShapeEnds'. -/
def shapeEndsUptoCard : Claim7 := { stood := { row := shapeEndsUptoRow, standIns := [], harness := (true, "6456cbc1fc1d163e785213f2c915fd981d564623b269f1048007a1a865430f4a"), looks := false }, kinds := [], alts := [], laidByText := true, laidKinds := [.data, .data, .pinned], laidTests := true, laidLooks := .later }
def ShapeEndsUptoCardSaid : Prop := Claim7.holds Tryd.pinned (.plain (OpenSpec.upto shapeEndsSpec)) shapeEndsUptoCard

/-- THE SECOND FORM's CARD OF 'tmesislaw17.FitsOnce'. -/
def fitsOnceUptoCard : Claim7 := { stood := { row := fitsOnceUptoRow, standIns := [], harness := (true, "6456cbc1fc1d163e785213f2c915fd981d564623b269f1048007a1a865430f4a"), looks := false }, kinds := [], alts := [], laidByText := true, laidKinds := [.data, .data, .pinned], laidTests := true, laidLooks := .later }
def FitsOnceUptoCardSaid : Prop := Claim7.holds Tryd.pinned (.plain (OpenSpec.upto fitsOnceSpec)) fitsOnceUptoCard

/-- THE SECOND FORM's CARD OF 'tmesislaw17.FitsThrough'. -/
def fitsThroughUptoCard : Claim7 := { stood := { row := fitsThroughUptoRow, standIns := [], harness := (true, "6456cbc1fc1d163e785213f2c915fd981d564623b269f1048007a1a865430f4a"), looks := false }, kinds := [], alts := [], laidByText := true, laidKinds := [.data, .data, .pinned], laidTests := true, laidLooks := .later }
def FitsThroughUptoCardSaid : Prop := Claim7.holds Tryd.pinned (.plain (OpenSpec.upto fitsThroughSpec)) fitsThroughUptoCard

/-- THE SECOND FORM's CARD OF 'tmesislaw17.FitsCross'. -/
def fitsCrossUptoCard : Claim7 := { stood := { row := fitsCrossUptoRow, standIns := [], harness := (true, "6456cbc1fc1d163e785213f2c915fd981d564623b269f1048007a1a865430f4a"), looks := false }, kinds := [], alts := [], laidByText := true, laidKinds := [.data, .data, .pinned], laidTests := true, laidLooks := .later }
def FitsCrossUptoCardSaid : Prop := Claim7.holds Tryd.pinned (.plain (OpenSpec.upto fitsCrossSpec)) fitsCrossUptoCard

/-- THE SECOND FORM's CARD OF 'tmesislaw17.FitsClosed'. -/
def fitsClosedUptoCard : Claim7 := { stood := { row := fitsClosedUptoRow, standIns := [], harness := (true, "6456cbc1fc1d163e785213f2c915fd981d564623b269f1048007a1a865430f4a"), looks := false }, kinds := [], alts := [], laidByText := true, laidKinds := [.data, .data, .pinned], laidTests := true, laidLooks := .later }
def FitsClosedUptoCardSaid : Prop := Claim7.holds Tryd.pinned (.plain (OpenSpec.upto fitsClosedSpec)) fitsClosedUptoCard

/-- THE SECOND FORM's CARD OF 'tmesislaw17.FitsAll'. -/
def fitsAllUptoCard : Claim7 := { stood := { row := fitsAllUptoRow, standIns := [], harness := (true, "6456cbc1fc1d163e785213f2c915fd981d564623b269f1048007a1a865430f4a"), looks := false }, kinds := [], alts := [], laidByText := true, laidKinds := [.data, .data, .pinned], laidTests := true, laidLooks := .later }
def FitsAllUptoCardSaid : Prop := Claim7.holds Tryd.pinned (.plain (OpenSpec.upto fitsAllSpec)) fitsAllUptoCard

/-- THE SECOND FORM's CARD OF 'tmesislaw17.FitsLeaves'. -/
def fitsLeavesUptoCard : Claim7 := { stood := { row := fitsLeavesUptoRow, standIns := [], harness := (true, "6456cbc1fc1d163e785213f2c915fd981d564623b269f1048007a1a865430f4a"), looks := false }, kinds := [], alts := [], laidByText := true, laidKinds := [.data, .data, .pinned], laidTests := true, laidLooks := .later }
def FitsLeavesUptoCardSaid : Prop := Claim7.holds Tryd.pinned (.plain (OpenSpec.upto fitsLeavesSpec)) fitsLeavesUptoCard

/-- THE SECOND FORM's CARD OF 'tmesislaw11.ShapeAll'. -/
def shapeAllUptoCard : Claim7 := { stood := { row := shapeAllUptoRow, standIns := [], harness := (true, "6456cbc1fc1d163e785213f2c915fd981d564623b269f1048007a1a865430f4a"), looks := false }, kinds := [], alts := [], laidByText := true, laidKinds := [.data, .data, .pinned], laidTests := true, laidLooks := .later }
def ShapeAllUptoCardSaid : Prop := Claim7.holds Tryd.pinned (.plain (OpenSpec.upto shapeAllSpec)) shapeAllUptoCard

/-- THE SECOND FORM's CARD OF 'tmesislaw11.ShapeBack'. -/
def shapeBackUptoCard : Claim7 := { stood := { row := shapeBackUptoRow, standIns := [], harness := (true, "6456cbc1fc1d163e785213f2c915fd981d564623b269f1048007a1a865430f4a"), looks := false }, kinds := [], alts := [], laidByText := true, laidKinds := [.data, .data, .pinned], laidTests := true, laidLooks := .later }
def ShapeBackUptoCardSaid : Prop := Claim7.holds Tryd.pinned (.plain (OpenSpec.upto shapeBackSpec)) shapeBackUptoCard

/-- THE SECOND FORM's CARD OF 'tmesislaw11.ShapeMade'. -/
def shapeMadeUptoCard : Claim7 := { stood := { row := shapeMadeUptoRow, standIns := [], harness := (true, "6456cbc1fc1d163e785213f2c915fd981d564623b269f1048007a1a865430f4a"), looks := false }, kinds := [], alts := [], laidByText := true, laidKinds := [.data, .data, .pinned], laidTests := true, laidLooks := .later }
def ShapeMadeUptoCardSaid : Prop := Claim7.holds Tryd.pinned (.plain (OpenSpec.upto shapeMadeSpec)) shapeMadeUptoCard

/-- THE SECOND FORM's CARD OF 'tmesislaw12.OperAll'. -/
def operAllUptoCard : Claim7 := { stood := { row := operAllUptoRow, standIns := [], harness := (true, "6456cbc1fc1d163e785213f2c915fd981d564623b269f1048007a1a865430f4a"), looks := false }, kinds := [], alts := [], laidByText := true, laidKinds := [.data, .data, .data, .pinned], laidTests := true, laidLooks := .later }
def OperAllUptoCardSaid : Prop := Claim7.holds Tryd.pinned (.plain (OpenSpec.upto operAllSpec)) operAllUptoCard

/-- THE SECOND FORM's CARD OF 'tmesislaw12.OperSimple'. -/
def operSimpleUptoCard : Claim7 := { stood := { row := operSimpleUptoRow, standIns := [], harness := (true, "6456cbc1fc1d163e785213f2c915fd981d564623b269f1048007a1a865430f4a"), looks := false }, kinds := [], alts := [], laidByText := true, laidKinds := [.data, .data, .data, .pinned], laidTests := true, laidLooks := .later }
def OperSimpleUptoCardSaid : Prop := Claim7.holds Tryd.pinned (.plain (OpenSpec.upto operSimpleSpec)) operSimpleUptoCard

/-- THE SECOND FORM's CARD OF 'tmesislaw12.OperFirst'. -/
def operFirstUptoCard : Claim7 := { stood := { row := operFirstUptoRow, standIns := [], harness := (true, "6456cbc1fc1d163e785213f2c915fd981d564623b269f1048007a1a865430f4a"), looks := false }, kinds := [], alts := [], laidByText := true, laidKinds := [.data, .data, .data, .pinned], laidTests := true, laidLooks := .later }
def OperFirstUptoCardSaid : Prop := Claim7.holds Tryd.pinned (.plain (OpenSpec.upto operFirstSpec)) operFirstUptoCard

/-- THE SECOND FORM's CARD OF 'tmesislaw12.OperSides'. -/
def operSidesUptoCard : Claim7 := { stood := { row := operSidesUptoRow, standIns := [], harness := (true, "6456cbc1fc1d163e785213f2c915fd981d564623b269f1048007a1a865430f4a"), looks := false }, kinds := [], alts := [], laidByText := true, laidKinds := [.data, .data, .data, .pinned], laidTests := true, laidLooks := .later }
def OperSidesUptoCardSaid : Prop := Claim7.holds Tryd.pinned (.plain (OpenSpec.upto operSidesSpec)) operSidesUptoCard
end Rows
end Go.Proofs.YtgbefhljbdjncaaDoor

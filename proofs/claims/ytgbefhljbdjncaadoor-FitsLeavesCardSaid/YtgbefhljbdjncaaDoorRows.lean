/-
  NARROWER THAN 'FOR EVERY INPUT', by the rows' own cells (each row's printed sentence says how): ShapeEnds: laid · FitsOnce: laid · FitsThrough: laid · FitsCross: laid · FitsClosed: laid · FitsAll: laid · FitsLeaves: laid · ShapeAll: laid · ShapeBack: laid · ShapeMade: laid · OperAll: laid · OperSimple: laid · OperFirst: laid · OperSides: laid.
  DERIVED. THE GIVEN ROWS OF THIS SEAT. 14 by the template 'for every input the law returns true; each argument reads behind the call as it read before'; 0 by the template 'total and deterministic' (their statements: YtgbefhljbdjncaaDoorTotals.lean).
  GIVEN WITH THE SEED: the statements are not yours to turn. If you find one false, say at which input.
  Laid BY PROGRAM, IN A SANDBOX (cutbox-rows.mjs): the forced cells as the released guide's own fill.sh prints them over the translation 2f7a23e416df0324… (all of the seat's roots in one cut). By AI agents, Wed Nov 11 2026. No macro, syntax, notation, axiom, sorry.
-/
import Derived.Test.YtgbefhljbdjncaaDoorChecked
import GoSem.PinnedTables
import GoSem.Claim
import GoSem.ClaimJoined
import GoSem.ClaimMapViews
import Derived.JoinedTies
import Derived.KernelRfl
namespace Go.Proofs.YtgbefhljbdjncaaDoor
/- THE CELL 'sum', in the pinned program and in every row, IS THE sha256 OF THE DUMP (.gsa) THAT YtgbefhljbdjncaaDoorProg.lean LOADS. Nothing in Lean hashes anything: it is a label: what it is worth is what the hold of that sum in a sandbox is worth. -/
noncomputable def Tryd.pinned : Pinned := { name := "ytgbefhljbdjncaadoor", sum := "2f7a23e416df0324da50394aa176c696c7680ff277d6a55f41271aee469f32b6", checked := Tryd.checked }
namespace Rows
def none {H : Type} : Left H := { results := [], args := [] }

/- WHAT THE LISTED PACKAGE-LEVEL VARIABLES READ AS WHEN THE CALL BEGINS. Each datum BY PROGRAM (the guide's laid-datum.mjs) off the statement by which the dump's own 'gosem.cut.vars' lays the variable. In a bare row this is a premise. The card (YtgbefhljbdjncaaDoorCards.lean) ties it to the program's text. -/
def laid_tmesis_class_members {H : Type} : DataW H := .agg [.agg [.lit (.int .i64 1), .lit (.string [9, 10, 13, 32])], .agg [.lit (.int .i64 2), .lit (.string [97, 98, 99, 100, 101, 102, 103, 104, 105, 106, 107, 108, 109, 110, 111, 112, 113, 114, 115, 116, 117, 118, 119, 120, 121, 122])], .agg [.lit (.int .i64 3), .lit (.string [65, 66, 67, 68, 69, 70, 71, 72, 73, 74, 75, 76, 77, 78, 79, 80, 81, 82, 83, 84, 85, 86, 87, 88, 89, 90, 95])], .agg [.lit (.int .i64 4), .lit (.string [48, 49, 50, 51, 52, 53, 54, 55, 56, 57])], .agg [.lit (.int .i64 5), .lit (.string [43, 45, 42, 47, 92, 94, 60, 62, 61, 126, 58, 46, 63, 64, 35, 38, 36, 33])], .agg [.lit (.int .i64 6), .lit (.string [40, 41, 44, 124, 59, 91, 93, 123, 125])], .agg [.lit (.int .i64 7), .lit (.string [39])], .agg [.lit (.int .i64 8), .lit (.string [37])]]
def laid_unicode_utf8_acceptRanges {H : Type} : DataW H := .agg [.agg [.lit (.int .u8 128), .lit (.int .u8 191)], .agg [.lit (.int .u8 160), .lit (.int .u8 191)], .agg [.lit (.int .u8 128), .lit (.int .u8 159)], .agg [.lit (.int .u8 144), .lit (.int .u8 191)], .agg [.lit (.int .u8 128), .lit (.int .u8 143)], .agg [.lit (.int .u8 0), .lit (.int .u8 0)], .agg [.lit (.int .u8 0), .lit (.int .u8 0)], .agg [.lit (.int .u8 0), .lit (.int .u8 0)], .agg [.lit (.int .u8 0), .lit (.int .u8 0)], .agg [.lit (.int .u8 0), .lit (.int .u8 0)], .agg [.lit (.int .u8 0), .lit (.int .u8 0)], .agg [.lit (.int .u8 0), .lit (.int .u8 0)], .agg [.lit (.int .u8 0), .lit (.int .u8 0)], .agg [.lit (.int .u8 0), .lit (.int .u8 0)], .agg [.lit (.int .u8 0), .lit (.int .u8 0)], .agg [.lit (.int .u8 0), .lit (.int .u8 0)]]
/-- One of Go's own tables, pinned by name: the form's constant. -/
def laid_unicode_utf8_first : DataW Unit := Go.Pinned.utf8First
def laid_tmesis_oper_simples {H : Type} : DataW H := .agg [.agg [.lit (.string [120, 102, 120]), .lit (.bool true), .lit (.bool true), .lit (.int .i64 0)], .agg [.lit (.string [120, 102, 121]), .lit (.bool true), .lit (.bool true), .lit (.int .i64 2)], .agg [.lit (.string [121, 102, 120]), .lit (.bool true), .lit (.bool true), .lit (.int .i64 1)], .agg [.lit (.string [102, 120]), .lit (.bool false), .lit (.bool true), .lit (.int .i64 0)], .agg [.lit (.string [102, 121]), .lit (.bool false), .lit (.bool true), .lit (.int .i64 2)], .agg [.lit (.string [120, 102]), .lit (.bool true), .lit (.bool false), .lit (.int .i64 0)], .agg [.lit (.string [121, 102]), .lit (.bool true), .lit (.bool false), .lit (.int .i64 1)]]

/-- 'tmesislaw11.ShapeEnds': WHATEVER THE INPUT: true; the input reads as it did. -/
def shapeEndsSpec : ChangeSpec := { name := "shapeEnds", fn := fun _ => fun
  | [d1, d2] => { results := [.lit (.bool true)], args := [d1, d2] }
  | _ => none }
def shapeEndsRow : OpenClaim := { program := "ytgbefhljbdjncaadoor", sum := "2f7a23e416df0324da50394aa176c696c7680ff277d6a55f41271aee469f32b6", func := "tmesis/tmesislaw11.ShapeEnds", spec := "shapeEnds", inPlace := ["internal/bytealg.CountString", "internal/bytealg.IndexByteString", "internal/bytealg.IndexString", "internal/bytealg.IndexByte"], unfollowed := true, recurses := true, named := ["unicode/utf8.first", "unicode/utf8.acceptRanges", "internal/bytealg.MaxLen", "tmesis/class.members"], apart := false, laid := [("tmesis/class.members", laid_tmesis_class_members), ("unicode/utf8.acceptRanges", laid_unicode_utf8_acceptRanges), ("unicode/utf8.first", laid_unicode_utf8_first)] }
def ShapeEndsSaid : Prop := shapeEndsRow.holds Tryd.pinned (OpenSpec.ofChange shapeEndsSpec)

/-- ITS FALSE NEIGHBOUR: 'it returns false'. Refute it at one input. -/
def shapeEndsWrong : ChangeSpec := { name := "shapeEnds", fn := fun _ => fun
  | [d1, d2] => { results := [.lit (.bool false)], args := [d1, d2] }
  | _ => none }
def ShapeEndsWrongFalsely : Prop := shapeEndsRow.holds Tryd.pinned (OpenSpec.ofChange shapeEndsWrong)

/-- 'tmesislaw17.FitsOnce': WHATEVER THE INPUT: true; the input reads as it did. -/
def fitsOnceSpec : ChangeSpec := { name := "fitsOnce", fn := fun _ => fun
  | [d1, d2, d3] => { results := [.lit (.bool true)], args := [d1, d2, d3] }
  | _ => none }
def fitsOnceRow : OpenClaim := { program := "ytgbefhljbdjncaadoor", sum := "2f7a23e416df0324da50394aa176c696c7680ff277d6a55f41271aee469f32b6", func := "tmesis/tmesislaw17.FitsOnce", spec := "fitsOnce", inPlace := ["internal/bytealg.CountString", "internal/bytealg.IndexByteString", "internal/bytealg.IndexString", "internal/bytealg.IndexByte"], unfollowed := true, recurses := true, named := ["unicode/utf8.first", "unicode/utf8.acceptRanges", "internal/bytealg.MaxLen", "tmesis/class.members"], apart := false, laid := [("tmesis/class.members", laid_tmesis_class_members), ("unicode/utf8.acceptRanges", laid_unicode_utf8_acceptRanges), ("unicode/utf8.first", laid_unicode_utf8_first)] }
def FitsOnceSaid : Prop := fitsOnceRow.holds Tryd.pinned (OpenSpec.ofChange fitsOnceSpec)

/-- ITS FALSE NEIGHBOUR: 'it returns false'. Refute it at one input. -/
def fitsOnceWrong : ChangeSpec := { name := "fitsOnce", fn := fun _ => fun
  | [d1, d2, d3] => { results := [.lit (.bool false)], args := [d1, d2, d3] }
  | _ => none }
def FitsOnceWrongFalsely : Prop := fitsOnceRow.holds Tryd.pinned (OpenSpec.ofChange fitsOnceWrong)

/-- 'tmesislaw17.FitsThrough': WHATEVER THE INPUT: true; the input reads as it did. -/
def fitsThroughSpec : ChangeSpec := { name := "fitsThrough", fn := fun _ => fun
  | [d1, d2, d3] => { results := [.lit (.bool true)], args := [d1, d2, d3] }
  | _ => none }
def fitsThroughRow : OpenClaim := { program := "ytgbefhljbdjncaadoor", sum := "2f7a23e416df0324da50394aa176c696c7680ff277d6a55f41271aee469f32b6", func := "tmesis/tmesislaw17.FitsThrough", spec := "fitsThrough", inPlace := ["internal/bytealg.CountString", "internal/bytealg.IndexByteString", "internal/bytealg.IndexString", "internal/bytealg.IndexByte"], unfollowed := true, recurses := true, named := ["unicode/utf8.first", "unicode/utf8.acceptRanges", "internal/bytealg.MaxLen", "tmesis/class.members"], apart := false, laid := [("tmesis/class.members", laid_tmesis_class_members), ("unicode/utf8.acceptRanges", laid_unicode_utf8_acceptRanges), ("unicode/utf8.first", laid_unicode_utf8_first)] }
def FitsThroughSaid : Prop := fitsThroughRow.holds Tryd.pinned (OpenSpec.ofChange fitsThroughSpec)

/-- ITS FALSE NEIGHBOUR: 'it returns false'. Refute it at one input. -/
def fitsThroughWrong : ChangeSpec := { name := "fitsThrough", fn := fun _ => fun
  | [d1, d2, d3] => { results := [.lit (.bool false)], args := [d1, d2, d3] }
  | _ => none }
def FitsThroughWrongFalsely : Prop := fitsThroughRow.holds Tryd.pinned (OpenSpec.ofChange fitsThroughWrong)

/-- 'tmesislaw17.FitsCross': WHATEVER THE INPUT: true; the input reads as it did. -/
def fitsCrossSpec : ChangeSpec := { name := "fitsCross", fn := fun _ => fun
  | [d1, d2, d3] => { results := [.lit (.bool true)], args := [d1, d2, d3] }
  | _ => none }
def fitsCrossRow : OpenClaim := { program := "ytgbefhljbdjncaadoor", sum := "2f7a23e416df0324da50394aa176c696c7680ff277d6a55f41271aee469f32b6", func := "tmesis/tmesislaw17.FitsCross", spec := "fitsCross", inPlace := ["internal/bytealg.CountString", "internal/bytealg.IndexByteString", "internal/bytealg.IndexString", "internal/bytealg.IndexByte"], unfollowed := true, recurses := true, named := ["unicode/utf8.first", "unicode/utf8.acceptRanges", "internal/bytealg.MaxLen", "tmesis/class.members"], apart := false, laid := [("tmesis/class.members", laid_tmesis_class_members), ("unicode/utf8.acceptRanges", laid_unicode_utf8_acceptRanges), ("unicode/utf8.first", laid_unicode_utf8_first)] }
def FitsCrossSaid : Prop := fitsCrossRow.holds Tryd.pinned (OpenSpec.ofChange fitsCrossSpec)

/-- ITS FALSE NEIGHBOUR: 'it returns false'. Refute it at one input. -/
def fitsCrossWrong : ChangeSpec := { name := "fitsCross", fn := fun _ => fun
  | [d1, d2, d3] => { results := [.lit (.bool false)], args := [d1, d2, d3] }
  | _ => none }
def FitsCrossWrongFalsely : Prop := fitsCrossRow.holds Tryd.pinned (OpenSpec.ofChange fitsCrossWrong)

/-- 'tmesislaw17.FitsClosed': WHATEVER THE INPUT: true; the input reads as it did. -/
def fitsClosedSpec : ChangeSpec := { name := "fitsClosed", fn := fun _ => fun
  | [d1, d2, d3] => { results := [.lit (.bool true)], args := [d1, d2, d3] }
  | _ => none }
def fitsClosedRow : OpenClaim := { program := "ytgbefhljbdjncaadoor", sum := "2f7a23e416df0324da50394aa176c696c7680ff277d6a55f41271aee469f32b6", func := "tmesis/tmesislaw17.FitsClosed", spec := "fitsClosed", inPlace := ["internal/bytealg.CountString", "internal/bytealg.IndexByteString", "internal/bytealg.IndexString", "internal/bytealg.IndexByte"], unfollowed := true, recurses := true, named := ["unicode/utf8.first", "unicode/utf8.acceptRanges", "internal/bytealg.MaxLen", "tmesis/class.members"], apart := false, laid := [("tmesis/class.members", laid_tmesis_class_members), ("unicode/utf8.acceptRanges", laid_unicode_utf8_acceptRanges), ("unicode/utf8.first", laid_unicode_utf8_first)] }
def FitsClosedSaid : Prop := fitsClosedRow.holds Tryd.pinned (OpenSpec.ofChange fitsClosedSpec)

/-- ITS FALSE NEIGHBOUR: 'it returns false'. Refute it at one input. -/
def fitsClosedWrong : ChangeSpec := { name := "fitsClosed", fn := fun _ => fun
  | [d1, d2, d3] => { results := [.lit (.bool false)], args := [d1, d2, d3] }
  | _ => none }
def FitsClosedWrongFalsely : Prop := fitsClosedRow.holds Tryd.pinned (OpenSpec.ofChange fitsClosedWrong)

/-- 'tmesislaw17.FitsAll': WHATEVER THE INPUT: true; the input reads as it did. -/
def fitsAllSpec : ChangeSpec := { name := "fitsAll", fn := fun _ => fun
  | [d1, d2, d3] => { results := [.lit (.bool true)], args := [d1, d2, d3] }
  | _ => none }
def fitsAllRow : OpenClaim := { program := "ytgbefhljbdjncaadoor", sum := "2f7a23e416df0324da50394aa176c696c7680ff277d6a55f41271aee469f32b6", func := "tmesis/tmesislaw17.FitsAll", spec := "fitsAll", inPlace := ["internal/bytealg.CountString", "internal/bytealg.IndexByteString", "internal/bytealg.IndexString", "internal/bytealg.IndexByte"], unfollowed := true, recurses := true, named := ["unicode/utf8.first", "unicode/utf8.acceptRanges", "internal/bytealg.MaxLen", "tmesis/class.members"], apart := false, laid := [("tmesis/class.members", laid_tmesis_class_members), ("unicode/utf8.acceptRanges", laid_unicode_utf8_acceptRanges), ("unicode/utf8.first", laid_unicode_utf8_first)] }
def FitsAllSaid : Prop := fitsAllRow.holds Tryd.pinned (OpenSpec.ofChange fitsAllSpec)

/-- ITS FALSE NEIGHBOUR: 'it returns false'. Refute it at one input. -/
def fitsAllWrong : ChangeSpec := { name := "fitsAll", fn := fun _ => fun
  | [d1, d2, d3] => { results := [.lit (.bool false)], args := [d1, d2, d3] }
  | _ => none }
def FitsAllWrongFalsely : Prop := fitsAllRow.holds Tryd.pinned (OpenSpec.ofChange fitsAllWrong)

/-- 'tmesislaw17.FitsLeaves': WHATEVER THE INPUT: true; the input reads as it did. -/
def fitsLeavesSpec : ChangeSpec := { name := "fitsLeaves", fn := fun _ => fun
  | [d1, d2] => { results := [.lit (.bool true)], args := [d1, d2] }
  | _ => none }
def fitsLeavesRow : OpenClaim := { program := "ytgbefhljbdjncaadoor", sum := "2f7a23e416df0324da50394aa176c696c7680ff277d6a55f41271aee469f32b6", func := "tmesis/tmesislaw17.FitsLeaves", spec := "fitsLeaves", inPlace := ["internal/bytealg.CountString", "internal/bytealg.IndexByteString", "internal/bytealg.IndexString", "internal/bytealg.IndexByte"], unfollowed := true, recurses := true, named := ["unicode/utf8.first", "unicode/utf8.acceptRanges", "internal/bytealg.MaxLen", "tmesis/class.members"], apart := false, laid := [("tmesis/class.members", laid_tmesis_class_members), ("unicode/utf8.acceptRanges", laid_unicode_utf8_acceptRanges), ("unicode/utf8.first", laid_unicode_utf8_first)] }
def FitsLeavesSaid : Prop := fitsLeavesRow.holds Tryd.pinned (OpenSpec.ofChange fitsLeavesSpec)

/-- ITS FALSE NEIGHBOUR: 'it returns false'. Refute it at one input. -/
def fitsLeavesWrong : ChangeSpec := { name := "fitsLeaves", fn := fun _ => fun
  | [d1, d2] => { results := [.lit (.bool false)], args := [d1, d2] }
  | _ => none }
def FitsLeavesWrongFalsely : Prop := fitsLeavesRow.holds Tryd.pinned (OpenSpec.ofChange fitsLeavesWrong)

/-- 'tmesislaw11.ShapeAll': WHATEVER THE INPUT: true; the input reads as it did. -/
def shapeAllSpec : ChangeSpec := { name := "shapeAll", fn := fun _ => fun
  | [d1, d2] => { results := [.lit (.bool true)], args := [d1, d2] }
  | _ => none }
def shapeAllRow : OpenClaim := { program := "ytgbefhljbdjncaadoor", sum := "2f7a23e416df0324da50394aa176c696c7680ff277d6a55f41271aee469f32b6", func := "tmesis/tmesislaw11.ShapeAll", spec := "shapeAll", inPlace := ["internal/bytealg.CountString", "internal/bytealg.IndexByteString", "internal/bytealg.IndexString", "internal/bytealg.IndexByte", "internal/abi.NoEscape", "internal/bytealg.MakeNoZero"], unfollowed := true, recurses := true, named := ["unicode/utf8.first", "unicode/utf8.acceptRanges", "internal/bytealg.MaxLen", "tmesis/class.members"], apart := false, laid := [("tmesis/class.members", laid_tmesis_class_members), ("unicode/utf8.acceptRanges", laid_unicode_utf8_acceptRanges), ("unicode/utf8.first", laid_unicode_utf8_first)] }
def ShapeAllSaid : Prop := shapeAllRow.holds Tryd.pinned (OpenSpec.ofChange shapeAllSpec)

/-- ITS FALSE NEIGHBOUR: 'it returns false'. Refute it at one input. -/
def shapeAllWrong : ChangeSpec := { name := "shapeAll", fn := fun _ => fun
  | [d1, d2] => { results := [.lit (.bool false)], args := [d1, d2] }
  | _ => none }
def ShapeAllWrongFalsely : Prop := shapeAllRow.holds Tryd.pinned (OpenSpec.ofChange shapeAllWrong)

/-- 'tmesislaw11.ShapeBack': WHATEVER THE INPUT: true; the input reads as it did. -/
def shapeBackSpec : ChangeSpec := { name := "shapeBack", fn := fun _ => fun
  | [d] => { results := [.lit (.bool true)], args := [d] }
  | _ => none }
def shapeBackRow : OpenClaim := { program := "ytgbefhljbdjncaadoor", sum := "2f7a23e416df0324da50394aa176c696c7680ff277d6a55f41271aee469f32b6", func := "tmesis/tmesislaw11.ShapeBack", spec := "shapeBack", inPlace := ["internal/bytealg.CountString", "internal/bytealg.IndexByteString", "internal/bytealg.IndexString", "internal/bytealg.IndexByte", "internal/abi.NoEscape", "internal/bytealg.MakeNoZero"], unfollowed := true, recurses := true, named := ["unicode/utf8.first", "unicode/utf8.acceptRanges", "internal/bytealg.MaxLen", "tmesis/class.members"], apart := false, laid := [("tmesis/class.members", laid_tmesis_class_members), ("unicode/utf8.acceptRanges", laid_unicode_utf8_acceptRanges), ("unicode/utf8.first", laid_unicode_utf8_first)] }
def ShapeBackSaid : Prop := shapeBackRow.holds Tryd.pinned (OpenSpec.ofChange shapeBackSpec)

/-- ITS FALSE NEIGHBOUR: 'it returns false'. Refute it at one input. -/
def shapeBackWrong : ChangeSpec := { name := "shapeBack", fn := fun _ => fun
  | [d] => { results := [.lit (.bool false)], args := [d] }
  | _ => none }
def ShapeBackWrongFalsely : Prop := shapeBackRow.holds Tryd.pinned (OpenSpec.ofChange shapeBackWrong)

/-- 'tmesislaw11.ShapeMade': WHATEVER THE INPUT: true; the input reads as it did. -/
def shapeMadeSpec : ChangeSpec := { name := "shapeMade", fn := fun _ => fun
  | [d1, d2, d3] => { results := [.lit (.bool true)], args := [d1, d2, d3] }
  | _ => none }
def shapeMadeRow : OpenClaim := { program := "ytgbefhljbdjncaadoor", sum := "2f7a23e416df0324da50394aa176c696c7680ff277d6a55f41271aee469f32b6", func := "tmesis/tmesislaw11.ShapeMade", spec := "shapeMade", inPlace := ["internal/bytealg.CountString", "internal/bytealg.IndexByteString", "internal/bytealg.IndexString", "internal/bytealg.IndexByte", "internal/abi.NoEscape", "internal/bytealg.MakeNoZero"], unfollowed := true, recurses := true, named := ["unicode/utf8.first", "unicode/utf8.acceptRanges", "internal/bytealg.MaxLen", "tmesis/class.members"], apart := false, laid := [("tmesis/class.members", laid_tmesis_class_members), ("unicode/utf8.acceptRanges", laid_unicode_utf8_acceptRanges), ("unicode/utf8.first", laid_unicode_utf8_first)] }
def ShapeMadeSaid : Prop := shapeMadeRow.holds Tryd.pinned (OpenSpec.ofChange shapeMadeSpec)

/-- ITS FALSE NEIGHBOUR: 'it returns false'. Refute it at one input. -/
def shapeMadeWrong : ChangeSpec := { name := "shapeMade", fn := fun _ => fun
  | [d1, d2, d3] => { results := [.lit (.bool false)], args := [d1, d2, d3] }
  | _ => none }
def ShapeMadeWrongFalsely : Prop := shapeMadeRow.holds Tryd.pinned (OpenSpec.ofChange shapeMadeWrong)

/-- 'tmesislaw12.OperAll': WHATEVER THE INPUT: true; the input reads as it did. -/
def operAllSpec : ChangeSpec := { name := "operAll", fn := fun _ => fun
  | [d1, d2, d3] => { results := [.lit (.bool true)], args := [d1, d2, d3] }
  | _ => none }
def operAllRow : OpenClaim := { program := "ytgbefhljbdjncaadoor", sum := "2f7a23e416df0324da50394aa176c696c7680ff277d6a55f41271aee469f32b6", func := "tmesis/tmesislaw12.OperAll", spec := "operAll", inPlace := ["internal/bytealg.IndexByteString", "internal/bytealg.IndexString", "internal/abi.NoEscape", "internal/bytealg.MakeNoZero", "internal/bytealg.CountString", "internal/bytealg.IndexByte"], unfollowed := true, recurses := true, named := ["tmesis/oper.simples", "internal/bytealg.MaxLen", "unicode/utf8.first", "unicode/utf8.acceptRanges", "tmesis/class.members"], apart := false, laid := [("tmesis/class.members", laid_tmesis_class_members), ("unicode/utf8.acceptRanges", laid_unicode_utf8_acceptRanges), ("tmesis/oper.simples", laid_tmesis_oper_simples), ("unicode/utf8.first", laid_unicode_utf8_first)] }
def OperAllSaid : Prop := operAllRow.holds Tryd.pinned (OpenSpec.ofChange operAllSpec)

/-- ITS FALSE NEIGHBOUR: 'it returns false'. Refute it at one input. -/
def operAllWrong : ChangeSpec := { name := "operAll", fn := fun _ => fun
  | [d1, d2, d3] => { results := [.lit (.bool false)], args := [d1, d2, d3] }
  | _ => none }
def OperAllWrongFalsely : Prop := operAllRow.holds Tryd.pinned (OpenSpec.ofChange operAllWrong)

/-- 'tmesislaw12.OperSimple': WHATEVER THE INPUT: true; the input reads as it did. -/
def operSimpleSpec : ChangeSpec := { name := "operSimple", fn := fun _ => fun
  | [d1, d2, d3] => { results := [.lit (.bool true)], args := [d1, d2, d3] }
  | _ => none }
def operSimpleRow : OpenClaim := { program := "ytgbefhljbdjncaadoor", sum := "2f7a23e416df0324da50394aa176c696c7680ff277d6a55f41271aee469f32b6", func := "tmesis/tmesislaw12.OperSimple", spec := "operSimple", inPlace := ["internal/bytealg.IndexByteString", "internal/bytealg.IndexString", "internal/abi.NoEscape", "internal/bytealg.MakeNoZero", "internal/bytealg.CountString", "internal/bytealg.IndexByte"], unfollowed := true, recurses := true, named := ["tmesis/oper.simples", "internal/bytealg.MaxLen", "unicode/utf8.first", "unicode/utf8.acceptRanges", "tmesis/class.members"], apart := false, laid := [("tmesis/class.members", laid_tmesis_class_members), ("unicode/utf8.acceptRanges", laid_unicode_utf8_acceptRanges), ("tmesis/oper.simples", laid_tmesis_oper_simples), ("unicode/utf8.first", laid_unicode_utf8_first)] }
def OperSimpleSaid : Prop := operSimpleRow.holds Tryd.pinned (OpenSpec.ofChange operSimpleSpec)

/-- ITS FALSE NEIGHBOUR: 'it returns false'. Refute it at one input. -/
def operSimpleWrong : ChangeSpec := { name := "operSimple", fn := fun _ => fun
  | [d1, d2, d3] => { results := [.lit (.bool false)], args := [d1, d2, d3] }
  | _ => none }
def OperSimpleWrongFalsely : Prop := operSimpleRow.holds Tryd.pinned (OpenSpec.ofChange operSimpleWrong)

/-- 'tmesislaw12.OperFirst': WHATEVER THE INPUT: true; the input reads as it did. -/
def operFirstSpec : ChangeSpec := { name := "operFirst", fn := fun _ => fun
  | [d1, d2] => { results := [.lit (.bool true)], args := [d1, d2] }
  | _ => none }
def operFirstRow : OpenClaim := { program := "ytgbefhljbdjncaadoor", sum := "2f7a23e416df0324da50394aa176c696c7680ff277d6a55f41271aee469f32b6", func := "tmesis/tmesislaw12.OperFirst", spec := "operFirst", inPlace := ["internal/bytealg.IndexByteString", "internal/bytealg.IndexString", "internal/abi.NoEscape", "internal/bytealg.MakeNoZero", "internal/bytealg.CountString", "internal/bytealg.IndexByte"], unfollowed := true, recurses := true, named := ["tmesis/oper.simples", "internal/bytealg.MaxLen", "unicode/utf8.first", "unicode/utf8.acceptRanges", "tmesis/class.members"], apart := false, laid := [("tmesis/class.members", laid_tmesis_class_members), ("unicode/utf8.acceptRanges", laid_unicode_utf8_acceptRanges), ("tmesis/oper.simples", laid_tmesis_oper_simples), ("unicode/utf8.first", laid_unicode_utf8_first)] }
def OperFirstSaid : Prop := operFirstRow.holds Tryd.pinned (OpenSpec.ofChange operFirstSpec)

/-- ITS FALSE NEIGHBOUR: 'it returns false'. Refute it at one input. -/
def operFirstWrong : ChangeSpec := { name := "operFirst", fn := fun _ => fun
  | [d1, d2] => { results := [.lit (.bool false)], args := [d1, d2] }
  | _ => none }
def OperFirstWrongFalsely : Prop := operFirstRow.holds Tryd.pinned (OpenSpec.ofChange operFirstWrong)

/-- 'tmesislaw12.OperSides': WHATEVER THE INPUT: true; the input reads as it did. -/
def operSidesSpec : ChangeSpec := { name := "operSides", fn := fun _ => fun
  | [d1, d2] => { results := [.lit (.bool true)], args := [d1, d2] }
  | _ => none }
def operSidesRow : OpenClaim := { program := "ytgbefhljbdjncaadoor", sum := "2f7a23e416df0324da50394aa176c696c7680ff277d6a55f41271aee469f32b6", func := "tmesis/tmesislaw12.OperSides", spec := "operSides", inPlace := ["internal/bytealg.IndexByteString", "internal/bytealg.IndexString", "internal/abi.NoEscape", "internal/bytealg.MakeNoZero", "internal/bytealg.CountString", "internal/bytealg.IndexByte"], unfollowed := true, recurses := true, named := ["tmesis/oper.simples", "internal/bytealg.MaxLen", "unicode/utf8.first", "unicode/utf8.acceptRanges", "tmesis/class.members"], apart := false, laid := [("tmesis/class.members", laid_tmesis_class_members), ("unicode/utf8.acceptRanges", laid_unicode_utf8_acceptRanges), ("tmesis/oper.simples", laid_tmesis_oper_simples), ("unicode/utf8.first", laid_unicode_utf8_first)] }
def OperSidesSaid : Prop := operSidesRow.holds Tryd.pinned (OpenSpec.ofChange operSidesSpec)

/-- ITS FALSE NEIGHBOUR: 'it returns false'. Refute it at one input. -/
def operSidesWrong : ChangeSpec := { name := "operSides", fn := fun _ => fun
  | [d1, d2] => { results := [.lit (.bool false)], args := [d1, d2] }
  | _ => none }
def OperSidesWrongFalsely : Prop := operSidesRow.holds Tryd.pinned (OpenSpec.ofChange operSidesWrong)

/- THE SECOND FORM. 'bulk': how many values and letters a reading holds, each counted each time it is reached (what is shared counts as often as it is met; a slice's spare places count too). A statement '..UptoSaid' is the law's where the arguments, and the package variables that the reading takes, are together of bulk at most 1048576: NARROWER than '..Said'. Prove '..Said' where nothing that the law and all that it calls make is longer than what came in: it says more and counts as full. Else prove '..UptoSaid'. A law counts once. -/
mutual
def uptoBulk {H : Type} : DataW H → Nat
  | .lit (.string bytes) => bytes.length + 1
  | .lit _ => 1
  | .nil => 1
  | .ptr d => uptoBulk d + 1
  | .slice elems spare => uptoBulkAll elems + uptoBulkAll spare + 1
  | .agg parts => uptoBulkAll parts + 1
  | .iface _ d => uptoBulk d + 1
  | .map entries => uptoBulkEntries entries + 1
  | .held _ => 1
def uptoBulkAll {H : Type} : List (DataW H) → Nat
  | [] => 0
  | d :: r => uptoBulk d + uptoBulkAll r
def uptoBulkEntries {H : Type} : List (Lit × DataW H) → Nat
  | [] => 0
  | x :: r => uptoBulkEntry x + uptoBulkEntries r
def uptoBulkEntry {H : Type} : Lit × DataW H → Nat
  | (.string bytes, d) => bytes.length + uptoBulk d + 1
  | (_, d) => uptoBulk d + 1
 end
def uptoSmall : (H : Type) → List (DataW H) → Bool := fun _ ds => decide (uptoBulkAll ds ≤ 1048576)
def OpenSpec.upto (s : _root_.Go.ChangeSpec) : _root_.Go.OpenSpec := { _root_.Go.OpenSpec.ofChange s with cond := some uptoSmall }

/-- 'tmesislaw11.ShapeEnds', WHERE WHAT IT READS IS OF BULK AT MOST 1048576: true; the input reads as it did. -/
def shapeEndsUptoRow : OpenClaim := { program := "ytgbefhljbdjncaadoor", sum := "2f7a23e416df0324da50394aa176c696c7680ff277d6a55f41271aee469f32b6", func := "tmesis/tmesislaw11.ShapeEnds", spec := "shapeEnds", inPlace := ["internal/bytealg.CountString", "internal/bytealg.IndexByteString", "internal/bytealg.IndexString", "internal/bytealg.IndexByte"], unfollowed := true, recurses := true, named := ["unicode/utf8.first", "unicode/utf8.acceptRanges", "internal/bytealg.MaxLen", "tmesis/class.members"], apart := false, laid := [("tmesis/class.members", laid_tmesis_class_members), ("unicode/utf8.acceptRanges", laid_unicode_utf8_acceptRanges), ("unicode/utf8.first", laid_unicode_utf8_first)], narrowed := true }
def ShapeEndsUptoSaid : Prop := shapeEndsUptoRow.holds Tryd.pinned (OpenSpec.upto shapeEndsSpec)

/-- 'tmesislaw17.FitsOnce', WHERE WHAT IT READS IS OF BULK AT MOST 1048576: true; the input reads as it did. -/
def fitsOnceUptoRow : OpenClaim := { program := "ytgbefhljbdjncaadoor", sum := "2f7a23e416df0324da50394aa176c696c7680ff277d6a55f41271aee469f32b6", func := "tmesis/tmesislaw17.FitsOnce", spec := "fitsOnce", inPlace := ["internal/bytealg.CountString", "internal/bytealg.IndexByteString", "internal/bytealg.IndexString", "internal/bytealg.IndexByte"], unfollowed := true, recurses := true, named := ["unicode/utf8.first", "unicode/utf8.acceptRanges", "internal/bytealg.MaxLen", "tmesis/class.members"], apart := false, laid := [("tmesis/class.members", laid_tmesis_class_members), ("unicode/utf8.acceptRanges", laid_unicode_utf8_acceptRanges), ("unicode/utf8.first", laid_unicode_utf8_first)], narrowed := true }
def FitsOnceUptoSaid : Prop := fitsOnceUptoRow.holds Tryd.pinned (OpenSpec.upto fitsOnceSpec)

/-- 'tmesislaw17.FitsThrough', WHERE WHAT IT READS IS OF BULK AT MOST 1048576: true; the input reads as it did. -/
def fitsThroughUptoRow : OpenClaim := { program := "ytgbefhljbdjncaadoor", sum := "2f7a23e416df0324da50394aa176c696c7680ff277d6a55f41271aee469f32b6", func := "tmesis/tmesislaw17.FitsThrough", spec := "fitsThrough", inPlace := ["internal/bytealg.CountString", "internal/bytealg.IndexByteString", "internal/bytealg.IndexString", "internal/bytealg.IndexByte"], unfollowed := true, recurses := true, named := ["unicode/utf8.first", "unicode/utf8.acceptRanges", "internal/bytealg.MaxLen", "tmesis/class.members"], apart := false, laid := [("tmesis/class.members", laid_tmesis_class_members), ("unicode/utf8.acceptRanges", laid_unicode_utf8_acceptRanges), ("unicode/utf8.first", laid_unicode_utf8_first)], narrowed := true }
def FitsThroughUptoSaid : Prop := fitsThroughUptoRow.holds Tryd.pinned (OpenSpec.upto fitsThroughSpec)

/-- 'tmesislaw17.FitsCross', WHERE WHAT IT READS IS OF BULK AT MOST 1048576: true; the input reads as it did. -/
def fitsCrossUptoRow : OpenClaim := { program := "ytgbefhljbdjncaadoor", sum := "2f7a23e416df0324da50394aa176c696c7680ff277d6a55f41271aee469f32b6", func := "tmesis/tmesislaw17.FitsCross", spec := "fitsCross", inPlace := ["internal/bytealg.CountString", "internal/bytealg.IndexByteString", "internal/bytealg.IndexString", "internal/bytealg.IndexByte"], unfollowed := true, recurses := true, named := ["unicode/utf8.first", "unicode/utf8.acceptRanges", "internal/bytealg.MaxLen", "tmesis/class.members"], apart := false, laid := [("tmesis/class.members", laid_tmesis_class_members), ("unicode/utf8.acceptRanges", laid_unicode_utf8_acceptRanges), ("unicode/utf8.first", laid_unicode_utf8_first)], narrowed := true }
def FitsCrossUptoSaid : Prop := fitsCrossUptoRow.holds Tryd.pinned (OpenSpec.upto fitsCrossSpec)

/-- 'tmesislaw17.FitsClosed', WHERE WHAT IT READS IS OF BULK AT MOST 1048576: true; the input reads as it did. -/
def fitsClosedUptoRow : OpenClaim := { program := "ytgbefhljbdjncaadoor", sum := "2f7a23e416df0324da50394aa176c696c7680ff277d6a55f41271aee469f32b6", func := "tmesis/tmesislaw17.FitsClosed", spec := "fitsClosed", inPlace := ["internal/bytealg.CountString", "internal/bytealg.IndexByteString", "internal/bytealg.IndexString", "internal/bytealg.IndexByte"], unfollowed := true, recurses := true, named := ["unicode/utf8.first", "unicode/utf8.acceptRanges", "internal/bytealg.MaxLen", "tmesis/class.members"], apart := false, laid := [("tmesis/class.members", laid_tmesis_class_members), ("unicode/utf8.acceptRanges", laid_unicode_utf8_acceptRanges), ("unicode/utf8.first", laid_unicode_utf8_first)], narrowed := true }
def FitsClosedUptoSaid : Prop := fitsClosedUptoRow.holds Tryd.pinned (OpenSpec.upto fitsClosedSpec)

/-- 'tmesislaw17.FitsAll', WHERE WHAT IT READS IS OF BULK AT MOST 1048576: true; the input reads as it did. -/
def fitsAllUptoRow : OpenClaim := { program := "ytgbefhljbdjncaadoor", sum := "2f7a23e416df0324da50394aa176c696c7680ff277d6a55f41271aee469f32b6", func := "tmesis/tmesislaw17.FitsAll", spec := "fitsAll", inPlace := ["internal/bytealg.CountString", "internal/bytealg.IndexByteString", "internal/bytealg.IndexString", "internal/bytealg.IndexByte"], unfollowed := true, recurses := true, named := ["unicode/utf8.first", "unicode/utf8.acceptRanges", "internal/bytealg.MaxLen", "tmesis/class.members"], apart := false, laid := [("tmesis/class.members", laid_tmesis_class_members), ("unicode/utf8.acceptRanges", laid_unicode_utf8_acceptRanges), ("unicode/utf8.first", laid_unicode_utf8_first)], narrowed := true }
def FitsAllUptoSaid : Prop := fitsAllUptoRow.holds Tryd.pinned (OpenSpec.upto fitsAllSpec)

/-- 'tmesislaw17.FitsLeaves', WHERE WHAT IT READS IS OF BULK AT MOST 1048576: true; the input reads as it did. -/
def fitsLeavesUptoRow : OpenClaim := { program := "ytgbefhljbdjncaadoor", sum := "2f7a23e416df0324da50394aa176c696c7680ff277d6a55f41271aee469f32b6", func := "tmesis/tmesislaw17.FitsLeaves", spec := "fitsLeaves", inPlace := ["internal/bytealg.CountString", "internal/bytealg.IndexByteString", "internal/bytealg.IndexString", "internal/bytealg.IndexByte"], unfollowed := true, recurses := true, named := ["unicode/utf8.first", "unicode/utf8.acceptRanges", "internal/bytealg.MaxLen", "tmesis/class.members"], apart := false, laid := [("tmesis/class.members", laid_tmesis_class_members), ("unicode/utf8.acceptRanges", laid_unicode_utf8_acceptRanges), ("unicode/utf8.first", laid_unicode_utf8_first)], narrowed := true }
def FitsLeavesUptoSaid : Prop := fitsLeavesUptoRow.holds Tryd.pinned (OpenSpec.upto fitsLeavesSpec)

/-- 'tmesislaw11.ShapeAll', WHERE WHAT IT READS IS OF BULK AT MOST 1048576: true; the input reads as it did. -/
def shapeAllUptoRow : OpenClaim := { program := "ytgbefhljbdjncaadoor", sum := "2f7a23e416df0324da50394aa176c696c7680ff277d6a55f41271aee469f32b6", func := "tmesis/tmesislaw11.ShapeAll", spec := "shapeAll", inPlace := ["internal/bytealg.CountString", "internal/bytealg.IndexByteString", "internal/bytealg.IndexString", "internal/bytealg.IndexByte", "internal/abi.NoEscape", "internal/bytealg.MakeNoZero"], unfollowed := true, recurses := true, named := ["unicode/utf8.first", "unicode/utf8.acceptRanges", "internal/bytealg.MaxLen", "tmesis/class.members"], apart := false, laid := [("tmesis/class.members", laid_tmesis_class_members), ("unicode/utf8.acceptRanges", laid_unicode_utf8_acceptRanges), ("unicode/utf8.first", laid_unicode_utf8_first)], narrowed := true }
def ShapeAllUptoSaid : Prop := shapeAllUptoRow.holds Tryd.pinned (OpenSpec.upto shapeAllSpec)

/-- 'tmesislaw11.ShapeBack', WHERE WHAT IT READS IS OF BULK AT MOST 1048576: true; the input reads as it did. -/
def shapeBackUptoRow : OpenClaim := { program := "ytgbefhljbdjncaadoor", sum := "2f7a23e416df0324da50394aa176c696c7680ff277d6a55f41271aee469f32b6", func := "tmesis/tmesislaw11.ShapeBack", spec := "shapeBack", inPlace := ["internal/bytealg.CountString", "internal/bytealg.IndexByteString", "internal/bytealg.IndexString", "internal/bytealg.IndexByte", "internal/abi.NoEscape", "internal/bytealg.MakeNoZero"], unfollowed := true, recurses := true, named := ["unicode/utf8.first", "unicode/utf8.acceptRanges", "internal/bytealg.MaxLen", "tmesis/class.members"], apart := false, laid := [("tmesis/class.members", laid_tmesis_class_members), ("unicode/utf8.acceptRanges", laid_unicode_utf8_acceptRanges), ("unicode/utf8.first", laid_unicode_utf8_first)], narrowed := true }
def ShapeBackUptoSaid : Prop := shapeBackUptoRow.holds Tryd.pinned (OpenSpec.upto shapeBackSpec)

/-- 'tmesislaw11.ShapeMade', WHERE WHAT IT READS IS OF BULK AT MOST 1048576: true; the input reads as it did. -/
def shapeMadeUptoRow : OpenClaim := { program := "ytgbefhljbdjncaadoor", sum := "2f7a23e416df0324da50394aa176c696c7680ff277d6a55f41271aee469f32b6", func := "tmesis/tmesislaw11.ShapeMade", spec := "shapeMade", inPlace := ["internal/bytealg.CountString", "internal/bytealg.IndexByteString", "internal/bytealg.IndexString", "internal/bytealg.IndexByte", "internal/abi.NoEscape", "internal/bytealg.MakeNoZero"], unfollowed := true, recurses := true, named := ["unicode/utf8.first", "unicode/utf8.acceptRanges", "internal/bytealg.MaxLen", "tmesis/class.members"], apart := false, laid := [("tmesis/class.members", laid_tmesis_class_members), ("unicode/utf8.acceptRanges", laid_unicode_utf8_acceptRanges), ("unicode/utf8.first", laid_unicode_utf8_first)], narrowed := true }
def ShapeMadeUptoSaid : Prop := shapeMadeUptoRow.holds Tryd.pinned (OpenSpec.upto shapeMadeSpec)

/-- 'tmesislaw12.OperAll', WHERE WHAT IT READS IS OF BULK AT MOST 1048576: true; the input reads as it did. -/
def operAllUptoRow : OpenClaim := { program := "ytgbefhljbdjncaadoor", sum := "2f7a23e416df0324da50394aa176c696c7680ff277d6a55f41271aee469f32b6", func := "tmesis/tmesislaw12.OperAll", spec := "operAll", inPlace := ["internal/bytealg.IndexByteString", "internal/bytealg.IndexString", "internal/abi.NoEscape", "internal/bytealg.MakeNoZero", "internal/bytealg.CountString", "internal/bytealg.IndexByte"], unfollowed := true, recurses := true, named := ["tmesis/oper.simples", "internal/bytealg.MaxLen", "unicode/utf8.first", "unicode/utf8.acceptRanges", "tmesis/class.members"], apart := false, laid := [("tmesis/class.members", laid_tmesis_class_members), ("unicode/utf8.acceptRanges", laid_unicode_utf8_acceptRanges), ("tmesis/oper.simples", laid_tmesis_oper_simples), ("unicode/utf8.first", laid_unicode_utf8_first)], narrowed := true }
def OperAllUptoSaid : Prop := operAllUptoRow.holds Tryd.pinned (OpenSpec.upto operAllSpec)

/-- 'tmesislaw12.OperSimple', WHERE WHAT IT READS IS OF BULK AT MOST 1048576: true; the input reads as it did. -/
def operSimpleUptoRow : OpenClaim := { program := "ytgbefhljbdjncaadoor", sum := "2f7a23e416df0324da50394aa176c696c7680ff277d6a55f41271aee469f32b6", func := "tmesis/tmesislaw12.OperSimple", spec := "operSimple", inPlace := ["internal/bytealg.IndexByteString", "internal/bytealg.IndexString", "internal/abi.NoEscape", "internal/bytealg.MakeNoZero", "internal/bytealg.CountString", "internal/bytealg.IndexByte"], unfollowed := true, recurses := true, named := ["tmesis/oper.simples", "internal/bytealg.MaxLen", "unicode/utf8.first", "unicode/utf8.acceptRanges", "tmesis/class.members"], apart := false, laid := [("tmesis/class.members", laid_tmesis_class_members), ("unicode/utf8.acceptRanges", laid_unicode_utf8_acceptRanges), ("tmesis/oper.simples", laid_tmesis_oper_simples), ("unicode/utf8.first", laid_unicode_utf8_first)], narrowed := true }
def OperSimpleUptoSaid : Prop := operSimpleUptoRow.holds Tryd.pinned (OpenSpec.upto operSimpleSpec)

/-- 'tmesislaw12.OperFirst', WHERE WHAT IT READS IS OF BULK AT MOST 1048576: true; the input reads as it did. -/
def operFirstUptoRow : OpenClaim := { program := "ytgbefhljbdjncaadoor", sum := "2f7a23e416df0324da50394aa176c696c7680ff277d6a55f41271aee469f32b6", func := "tmesis/tmesislaw12.OperFirst", spec := "operFirst", inPlace := ["internal/bytealg.IndexByteString", "internal/bytealg.IndexString", "internal/abi.NoEscape", "internal/bytealg.MakeNoZero", "internal/bytealg.CountString", "internal/bytealg.IndexByte"], unfollowed := true, recurses := true, named := ["tmesis/oper.simples", "internal/bytealg.MaxLen", "unicode/utf8.first", "unicode/utf8.acceptRanges", "tmesis/class.members"], apart := false, laid := [("tmesis/class.members", laid_tmesis_class_members), ("unicode/utf8.acceptRanges", laid_unicode_utf8_acceptRanges), ("tmesis/oper.simples", laid_tmesis_oper_simples), ("unicode/utf8.first", laid_unicode_utf8_first)], narrowed := true }
def OperFirstUptoSaid : Prop := operFirstUptoRow.holds Tryd.pinned (OpenSpec.upto operFirstSpec)

/-- 'tmesislaw12.OperSides', WHERE WHAT IT READS IS OF BULK AT MOST 1048576: true; the input reads as it did. -/
def operSidesUptoRow : OpenClaim := { program := "ytgbefhljbdjncaadoor", sum := "2f7a23e416df0324da50394aa176c696c7680ff277d6a55f41271aee469f32b6", func := "tmesis/tmesislaw12.OperSides", spec := "operSides", inPlace := ["internal/bytealg.IndexByteString", "internal/bytealg.IndexString", "internal/abi.NoEscape", "internal/bytealg.MakeNoZero", "internal/bytealg.CountString", "internal/bytealg.IndexByte"], unfollowed := true, recurses := true, named := ["tmesis/oper.simples", "internal/bytealg.MaxLen", "unicode/utf8.first", "unicode/utf8.acceptRanges", "tmesis/class.members"], apart := false, laid := [("tmesis/class.members", laid_tmesis_class_members), ("unicode/utf8.acceptRanges", laid_unicode_utf8_acceptRanges), ("tmesis/oper.simples", laid_tmesis_oper_simples), ("unicode/utf8.first", laid_unicode_utf8_first)], narrowed := true }
def OperSidesUptoSaid : Prop := operSidesUptoRow.holds Tryd.pinned (OpenSpec.upto operSidesSpec)

end Rows
end Go.Proofs.YtgbefhljbdjncaaDoor

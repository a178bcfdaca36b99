/-
  NARROWER THAN 'FOR EVERY INPUT', by the rows' own cells (each row's printed sentence says how): DeriveSigns: laid · DeriveLeaves: laid · DeriveChain: laid.
  DERIVED. THE GIVEN ROWS OF THIS SEAT. 3 by the template 'for every input the law returns true; each argument reads behind the call as it read before'; 0 by the template 'total and deterministic' (their statements: YtpidbhbmamjbpaaDoorTotals.lean).
  GIVEN WITH THE SEED: the statements are not yours to turn. If you find one false, say at which input.
  Laid BY PROGRAM, IN A SANDBOX (cutbox-rows.mjs): the forced cells as the released guide's own fill.sh prints them over the translation 47ac8024a6c403b6… (all of the seat's roots in one cut). By AI agents, Wed Nov 11 2026. No macro, syntax, notation, axiom, sorry.
-/
import Derived.Test.YtpidbhbmamjbpaaDoorChecked
import GoSem.PinnedTables
import GoSem.Claim
import GoSem.ClaimJoined
import GoSem.ClaimMapViews
import Derived.JoinedTies
import Derived.KernelRfl
namespace Go.Proofs.YtpidbhbmamjbpaaDoor
/- THE CELL 'sum', in the pinned program and in every row, IS THE sha256 OF THE DUMP (.gsa) THAT YtpidbhbmamjbpaaDoorProg.lean LOADS. Nothing in Lean hashes anything: it is a label: what it is worth is what the hold of that sum in a sandbox is worth. -/
noncomputable def Tryd.pinned : Pinned := { name := "ytpidbhbmamjbpaadoor", sum := "47ac8024a6c403b6d02d07d51ac2dc094fd0c7ffce1185888937a2a2dfab4211", checked := Tryd.checked }
namespace Rows
def none {H : Type} : Left H := { results := [], args := [] }

/- WHAT THE LISTED PACKAGE-LEVEL VARIABLES READ AS WHEN THE CALL BEGINS. Each datum BY PROGRAM (the guide's laid-datum.mjs) off the statement by which the dump's own 'gosem.cut.vars' lays the variable. In a bare row this is a premise. The card (YtpidbhbmamjbpaaDoorCards.lean) ties it to the program's text. -/
def laid_tmesis_class_members {H : Type} : DataW H := .agg [.agg [.lit (.int .i64 1), .lit (.string [9, 10, 13, 32])], .agg [.lit (.int .i64 2), .lit (.string [97, 98, 99, 100, 101, 102, 103, 104, 105, 106, 107, 108, 109, 110, 111, 112, 113, 114, 115, 116, 117, 118, 119, 120, 121, 122])], .agg [.lit (.int .i64 3), .lit (.string [65, 66, 67, 68, 69, 70, 71, 72, 73, 74, 75, 76, 77, 78, 79, 80, 81, 82, 83, 84, 85, 86, 87, 88, 89, 90, 95])], .agg [.lit (.int .i64 4), .lit (.string [48, 49, 50, 51, 52, 53, 54, 55, 56, 57])], .agg [.lit (.int .i64 5), .lit (.string [43, 45, 42, 47, 92, 94, 60, 62, 61, 126, 58, 46, 63, 64, 35, 38, 36, 33])], .agg [.lit (.int .i64 6), .lit (.string [40, 41, 44, 124, 59, 91, 93, 123, 125])], .agg [.lit (.int .i64 7), .lit (.string [39])], .agg [.lit (.int .i64 8), .lit (.string [37])]]
def laid_unicode_utf8_acceptRanges {H : Type} : DataW H := .agg [.agg [.lit (.int .u8 128), .lit (.int .u8 191)], .agg [.lit (.int .u8 160), .lit (.int .u8 191)], .agg [.lit (.int .u8 128), .lit (.int .u8 159)], .agg [.lit (.int .u8 144), .lit (.int .u8 191)], .agg [.lit (.int .u8 128), .lit (.int .u8 143)], .agg [.lit (.int .u8 0), .lit (.int .u8 0)], .agg [.lit (.int .u8 0), .lit (.int .u8 0)], .agg [.lit (.int .u8 0), .lit (.int .u8 0)], .agg [.lit (.int .u8 0), .lit (.int .u8 0)], .agg [.lit (.int .u8 0), .lit (.int .u8 0)], .agg [.lit (.int .u8 0), .lit (.int .u8 0)], .agg [.lit (.int .u8 0), .lit (.int .u8 0)], .agg [.lit (.int .u8 0), .lit (.int .u8 0)], .agg [.lit (.int .u8 0), .lit (.int .u8 0)], .agg [.lit (.int .u8 0), .lit (.int .u8 0)], .agg [.lit (.int .u8 0), .lit (.int .u8 0)]]
/-- One of Go's own tables, pinned by name: the form's constant. -/
def laid_unicode_utf8_first : DataW Unit := Go.Pinned.utf8First

/-- 'tmesislaw19.DeriveSigns': WHATEVER THE INPUT: true; the input reads as it did. -/
def deriveSignsSpec : ChangeSpec := { name := "deriveSigns", fn := fun _ => fun
  | [d1, d2] => { results := [.lit (.bool true)], args := [d1, d2] }
  | _ => none }
def deriveSignsRow : OpenClaim := { program := "ytpidbhbmamjbpaadoor", sum := "47ac8024a6c403b6d02d07d51ac2dc094fd0c7ffce1185888937a2a2dfab4211", func := "tmesis/tmesislaw19.DeriveSigns", spec := "deriveSigns", inPlace := ["internal/bytealg.CountString", "internal/bytealg.IndexByteString", "internal/bytealg.IndexString", "internal/bytealg.IndexByte", "slices.overlaps[tmesis/api.Oper]"], unfollowed := true, recurses := true, named := ["unicode/utf8.first", "unicode/utf8.acceptRanges", "internal/bytealg.MaxLen", "tmesis/class.members"], plainKeys := false, apart := false, laid := [("tmesis/class.members", laid_tmesis_class_members), ("unicode/utf8.acceptRanges", laid_unicode_utf8_acceptRanges), ("unicode/utf8.first", laid_unicode_utf8_first)] }
def DeriveSignsSaid : Prop := deriveSignsRow.holds Tryd.pinned (OpenSpec.ofChange deriveSignsSpec)

/-- ITS FALSE NEIGHBOUR: 'it returns false'. Refute it at one input. -/
def deriveSignsWrong : ChangeSpec := { name := "deriveSigns", fn := fun _ => fun
  | [d1, d2] => { results := [.lit (.bool false)], args := [d1, d2] }
  | _ => none }
def DeriveSignsWrongFalsely : Prop := deriveSignsRow.holds Tryd.pinned (OpenSpec.ofChange deriveSignsWrong)

/-- 'tmesislaw19.DeriveLeaves': WHATEVER THE INPUT: true; the input reads as it did. -/
def deriveLeavesSpec : ChangeSpec := { name := "deriveLeaves", fn := fun _ => fun
  | [d] => { results := [.lit (.bool true)], args := [d] }
  | _ => none }
def deriveLeavesRow : OpenClaim := { program := "ytpidbhbmamjbpaadoor", sum := "47ac8024a6c403b6d02d07d51ac2dc094fd0c7ffce1185888937a2a2dfab4211", func := "tmesis/tmesislaw19.DeriveLeaves", spec := "deriveLeaves", inPlace := ["internal/bytealg.CountString", "internal/bytealg.IndexByteString", "internal/bytealg.IndexString", "internal/bytealg.IndexByte", "slices.overlaps[tmesis/api.Oper]"], unfollowed := true, recurses := true, named := ["unicode/utf8.first", "unicode/utf8.acceptRanges", "internal/bytealg.MaxLen", "tmesis/class.members"], plainKeys := false, apart := false, laid := [("tmesis/class.members", laid_tmesis_class_members), ("unicode/utf8.acceptRanges", laid_unicode_utf8_acceptRanges), ("unicode/utf8.first", laid_unicode_utf8_first)] }
def DeriveLeavesSaid : Prop := deriveLeavesRow.holds Tryd.pinned (OpenSpec.ofChange deriveLeavesSpec)

/-- ITS FALSE NEIGHBOUR: 'it returns false'. Refute it at one input. -/
def deriveLeavesWrong : ChangeSpec := { name := "deriveLeaves", fn := fun _ => fun
  | [d] => { results := [.lit (.bool false)], args := [d] }
  | _ => none }
def DeriveLeavesWrongFalsely : Prop := deriveLeavesRow.holds Tryd.pinned (OpenSpec.ofChange deriveLeavesWrong)

/-- 'tmesislaw19.DeriveChain': WHATEVER THE INPUT: true; the input reads as it did. -/
def deriveChainSpec : ChangeSpec := { name := "deriveChain", fn := fun _ => fun
  | [d1, d2, d3] => { results := [.lit (.bool true)], args := [d1, d2, d3] }
  | _ => none }
def deriveChainRow : OpenClaim := { program := "ytpidbhbmamjbpaadoor", sum := "47ac8024a6c403b6d02d07d51ac2dc094fd0c7ffce1185888937a2a2dfab4211", func := "tmesis/tmesislaw19.DeriveChain", spec := "deriveChain", inPlace := ["internal/bytealg.CountString", "internal/bytealg.IndexByteString", "internal/bytealg.IndexString", "internal/bytealg.IndexByte", "slices.overlaps[tmesis/api.Oper]"], unfollowed := true, recurses := true, named := ["unicode/utf8.first", "unicode/utf8.acceptRanges", "internal/bytealg.MaxLen", "tmesis/class.members"], plainKeys := false, apart := false, laid := [("tmesis/class.members", laid_tmesis_class_members), ("unicode/utf8.acceptRanges", laid_unicode_utf8_acceptRanges), ("unicode/utf8.first", laid_unicode_utf8_first)] }
def DeriveChainSaid : Prop := deriveChainRow.holds Tryd.pinned (OpenSpec.ofChange deriveChainSpec)

/-- ITS FALSE NEIGHBOUR: 'it returns false'. Refute it at one input. -/
def deriveChainWrong : ChangeSpec := { name := "deriveChain", fn := fun _ => fun
  | [d1, d2, d3] => { results := [.lit (.bool false)], args := [d1, d2, d3] }
  | _ => none }
def DeriveChainWrongFalsely : Prop := deriveChainRow.holds Tryd.pinned (OpenSpec.ofChange deriveChainWrong)

/- THE SECOND FORM. 'bulk': how many values and letters a reading holds, each counted each time it is reached (what is shared counts as often as it is met; a slice's spare places count too). A statement '..UptoSaid' is the law's where the arguments, and the package variables that the reading takes, are together of bulk at most 1048576: NARROWER than '..Said'. Prove '..Said' where nothing that the law and all that it calls make is longer than what came in: it says more and counts as full. Else prove '..UptoSaid'. A law counts once. -/
mutual
def uptoBulk {H : Type} : DataW H → Nat
  | .lit (.string bytes) => bytes.length + 1
  | .lit _ => 1
  | .nil => 1
  | .ptr d => uptoBulk d + 1
  | .slice elems spare => uptoBulkAll elems + uptoBulkAll spare + 1
  | .agg parts => uptoBulkAll parts + 1
  | .iface _ d => uptoBulk d + 1
  | .map entries => uptoBulkEntries entries + 1
  | .held _ => 1
def uptoBulkAll {H : Type} : List (DataW H) → Nat
  | [] => 0
  | d :: r => uptoBulk d + uptoBulkAll r
def uptoBulkEntries {H : Type} : List (Lit × DataW H) → Nat
  | [] => 0
  | x :: r => uptoBulkEntry x + uptoBulkEntries r
def uptoBulkEntry {H : Type} : Lit × DataW H → Nat
  | (.string bytes, d) => bytes.length + uptoBulk d + 1
  | (_, d) => uptoBulk d + 1
 end
def uptoSmall : (H : Type) → List (DataW H) → Bool := fun _ ds => decide (uptoBulkAll ds ≤ 1048576)
def OpenSpec.upto (s : _root_.Go.ChangeSpec) : _root_.Go.OpenSpec := { _root_.Go.OpenSpec.ofChange s with cond := some uptoSmall }

/-- 'tmesislaw19.DeriveSigns', WHERE WHAT IT READS IS OF BULK AT MOST 1048576: true; the input reads as it did. -/
def deriveSignsUptoRow : OpenClaim := { program := "ytpidbhbmamjbpaadoor", sum := "47ac8024a6c403b6d02d07d51ac2dc094fd0c7ffce1185888937a2a2dfab4211", func := "tmesis/tmesislaw19.DeriveSigns", spec := "deriveSigns", inPlace := ["internal/bytealg.CountString", "internal/bytealg.IndexByteString", "internal/bytealg.IndexString", "internal/bytealg.IndexByte", "slices.overlaps[tmesis/api.Oper]"], unfollowed := true, recurses := true, named := ["unicode/utf8.first", "unicode/utf8.acceptRanges", "internal/bytealg.MaxLen", "tmesis/class.members"], plainKeys := false, apart := false, laid := [("tmesis/class.members", laid_tmesis_class_members), ("unicode/utf8.acceptRanges", laid_unicode_utf8_acceptRanges), ("unicode/utf8.first", laid_unicode_utf8_first)], narrowed := true }
def DeriveSignsUptoSaid : Prop := deriveSignsUptoRow.holds Tryd.pinned (OpenSpec.upto deriveSignsSpec)

/-- 'tmesislaw19.DeriveLeaves', WHERE WHAT IT READS IS OF BULK AT MOST 1048576: true; the input reads as it did. -/
def deriveLeavesUptoRow : OpenClaim := { program := "ytpidbhbmamjbpaadoor", sum := "47ac8024a6c403b6d02d07d51ac2dc094fd0c7ffce1185888937a2a2dfab4211", func := "tmesis/tmesislaw19.DeriveLeaves", spec := "deriveLeaves", inPlace := ["internal/bytealg.CountString", "internal/bytealg.IndexByteString", "internal/bytealg.IndexString", "internal/bytealg.IndexByte", "slices.overlaps[tmesis/api.Oper]"], unfollowed := true, recurses := true, named := ["unicode/utf8.first", "unicode/utf8.acceptRanges", "internal/bytealg.MaxLen", "tmesis/class.members"], plainKeys := false, apart := false, laid := [("tmesis/class.members", laid_tmesis_class_members), ("unicode/utf8.acceptRanges", laid_unicode_utf8_acceptRanges), ("unicode/utf8.first", laid_unicode_utf8_first)], narrowed := true }
def DeriveLeavesUptoSaid : Prop := deriveLeavesUptoRow.holds Tryd.pinned (OpenSpec.upto deriveLeavesSpec)

/-- 'tmesislaw19.DeriveChain', WHERE WHAT IT READS IS OF BULK AT MOST 1048576: true; the input reads as it did. -/
def deriveChainUptoRow : OpenClaim := { program := "ytpidbhbmamjbpaadoor", sum := "47ac8024a6c403b6d02d07d51ac2dc094fd0c7ffce1185888937a2a2dfab4211", func := "tmesis/tmesislaw19.DeriveChain", spec := "deriveChain", inPlace := ["internal/bytealg.CountString", "internal/bytealg.IndexByteString", "internal/bytealg.IndexString", "internal/bytealg.IndexByte", "slices.overlaps[tmesis/api.Oper]"], unfollowed := true, recurses := true, named := ["unicode/utf8.first", "unicode/utf8.acceptRanges", "internal/bytealg.MaxLen", "tmesis/class.members"], plainKeys := false, apart := false, laid := [("tmesis/class.members", laid_tmesis_class_members), ("unicode/utf8.acceptRanges", laid_unicode_utf8_acceptRanges), ("unicode/utf8.first", laid_unicode_utf8_first)], narrowed := true }
def DeriveChainUptoSaid : Prop := deriveChainUptoRow.holds Tryd.pinned (OpenSpec.upto deriveChainSpec)

end Rows
end Go.Proofs.YtpidbhbmamjbpaaDoor

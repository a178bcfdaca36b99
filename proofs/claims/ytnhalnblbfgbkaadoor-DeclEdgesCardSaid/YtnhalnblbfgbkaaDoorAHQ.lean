/-
  The functions that are called with the heap, derive's with them.
-/
import Derived.Test.YtnhalnblbfgbkaaDoorAMD
namespace Go.Am
open Go
def HQ : List Nat := [66, 95, 112, 43, 44, 77, 78, 79, 80, 81, 46, 51, 83, 74, 105, 73, 50, 84]
end Go.Am

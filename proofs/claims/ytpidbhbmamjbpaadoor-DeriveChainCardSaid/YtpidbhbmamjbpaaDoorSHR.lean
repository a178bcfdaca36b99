/-
  The functions that are called with the heap: derive's, tree's, and the slices' that give rows of one's own.
-/
import Derived.Test.YtpidbhbmamjbpaaDoorSMD
namespace Go.Am
open Go
def HR : List Nat := [42, 63, 80, 15, 16, 36, 37, 38, 39, 40, 19, 25, 48, 29, 71, 28, 24, 51, 30, 31]
end Go.Am

/-
  The functions that are called with the heap, derive's with them.
-/
import Derived.Test.YtpidbhbmamjbpaaDoorSMD
namespace Go.Am
open Go
def HQ : List Nat := [42, 63, 80, 15, 16, 36, 37, 38, 39, 40, 19, 25, 48, 29, 71, 28, 24, 51]
end Go.Am

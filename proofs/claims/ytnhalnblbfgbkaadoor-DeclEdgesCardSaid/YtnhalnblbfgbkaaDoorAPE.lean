/-
  What may be a part of a pattern, exactly.
-/
import Derived.Test.YtnhalnblbfgbkaaDoorAML
import Derived.Test.YtnhalnblbfgbkaaDoorAMH
namespace Go.Am
open Go
def partE : List UInt8 → Bool := partV (onB FAll)
end Go.Am

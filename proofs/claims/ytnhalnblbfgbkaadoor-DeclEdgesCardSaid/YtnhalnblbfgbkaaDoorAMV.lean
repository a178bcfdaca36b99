/-
  graph, and the reference's: Start, Tighter, Edge; New.
-/
import Derived.Test.YtnhalnblbfgbkaaDoorAMD
import Derived.Test.YtnhalnblbfgbkaaDoorProg
import Derived.Test.YtnhalnblbfgbkaaDoorAME
import Derived.Test.YtnhalnblbfgbkaaDoorAQU
namespace Go.Am
open Go
structure EnvOk (sz : Nat) (l : List Op3) (r : Nat → Nat) : Prop where
  sz : sz = 3 ∨ l = []
  len : l.length ≤ 1000
  lt : ∀ x, r x < 1024
  hi : ∀ x, 10 ≤ x → r x = 0
end Go.Am

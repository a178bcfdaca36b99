/- The abstract code of functions: printed by gen.py; checked by the kernel. -/
import Derived.Test.YtnhalnblbfgbkaaDoorAMD
import Derived.Test.YtnhalnblbfgbkaaDoorProg
namespace Go.Am
open Go K
set_option maxRecDepth 100000
theorem mixedS : Go.Proofs.Tryd.prog.follows .mixedOrders = true := by kernel_rfl
def c34 : ACode :=
 (S (R [q 1 (.box (t 0)), q 2 (.move (s []))]) (S (R [q 3 (.move (.k (.c (.d (.fn 116)))))]) (S (G [m 4 3, q 5 (fa 1 1), q 6 (l 5), q 7 (.vcall (t 4) [(t 6)]), q 8 (fa 1 0), q 9 (l 8), q 10 (.pcall 117 [(t 9), (s [95])]), q 11 (.bin .add (t 7) (t 10)), m 12 3, q 13 (fa 1 2), q 14 (l 13), q 15 (.vcall (t 12) [(t 14)]), q 16 (.bin .add (t 11) (t 15)), m 2 16] [0, 0, 2, 7, 0, 16, 63, 127, 0, 0, 512, 1919, 4095, 8191]) Z)))
theorem fn34 (m : Int) : FnOk Go.Proofs.Tryd.prog ⟨[], [], HP, glb m⟩ 101 17 c34 [.t 2] := fnk mixedS Go.Proofs.Tryd.f101
def c58 : ACode :=
 (S (R [q 2 (.move (s []))]) (S (S (R [m 3 0]) (I (t 3) (S (R [q 2 (.move (s [95]))]) Z) X)) (S (R [q 2 (.move (s []))]) Z)))
theorem fn58 (m : Int) : FnOk Go.Proofs.Tryd.prog ⟨[], [], HP, glb m⟩ 116 4 c58 [.t 2] := fnk mixedS Go.Proofs.Tryd.f116
end Go.Am

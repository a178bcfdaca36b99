/-
  digits.Put.
-/
import Derived.Test.YtpidbhbmamjbpaaDoorSNC
import Derived.Test.YtpidbhbmamjbpaaDoorProg
import Derived.Shelf.Strings.OnBuilder
import Derived.Test.YtpidbhbmamjbpaaDoorSMI
import Derived.Test.YtpidbhbmamjbpaaDoorSMH
import Derived.Test.YtpidbhbmamjbpaaDoorSMG
import Derived.Shelf.Strings.Split
import Derived.Test.YtpidbhbmamjbpaaDoorSMF
import Derived.Test.YtpidbhbmamjbpaaDoorSME
import Derived.Test.YtpidbhbmamjbpaaDoorSCX
import Derived.Test.YtpidbhbmamjbpaaDoorSMD
import Derived.Test.YtpidbhbmamjbpaaDoorSMC
import Derived.Test.YtpidbhbmamjbpaaDoorSMB
import Derived.Test.YtpidbhbmamjbpaaDoorSMA
import Derived.Laws.Rows
import Derived.Laws.AppendOwn
import Derived.Calls
import Derived.Tactics
import Derived.Below
import Derived.Laws.RangeString
import Derived.Laws.Strings
import Derived.Laws.BytesArg
import Derived.Laws.CopyRow
import Derived.Laws.StructEq
import Derived.ChangeKeysEq
import Derived.WideKeyRuns
import Derived.Orders
import Derived.ScopeJumps
import Derived.KernelRfl
import Derived.Lib.BytesEntry
import Derived.Laws.Externs
import Derived.Lib.IndexLaws
import Derived.Test.YtpidbhbmamjbpaaDoorSQU
import Derived.Test.YtpidbhbmamjbpaaDoorSDE
import Derived.Test.YtpidbhbmamjbpaaDoorSNF
import Derived.Test.YtpidbhbmamjbpaaDoorSNE
import Derived.Test.YtpidbhbmamjbpaaDoorSNI
import Derived.Test.YtpidbhbmamjbpaaDoorSML
import Derived.Test.YtpidbhbmamjbpaaDoorSQA
import Derived.Test.YtpidbhbmamjbpaaDoorSMY
import Derived.Test.YtpidbhbmamjbpaaDoorSMV
import Derived.Test.YtpidbhbmamjbpaaDoorSCU
import Derived.Test.YtpidbhbmamjbpaaDoorSHQ
namespace Go.Am
open Go
def lowW (w : List UInt8) : Prop := ∀ b ∈ w, 97 ≤ b.toNat ∧ b.toNat ≤ 122
theorem wrap8 {n : Int} (h0 : 0 ≤ n) (h1 : n < 256) : IntKind.wrap .u8 n = n := by
  unfold IntKind.wrap
  have hs : IntKind.signed .u8 = false := rfl
  have hb : IntKind.bits .u8 = 8 := rfl
  simp only [hs, hb, Bool.false_and, Bool.false_eq_true, if_false]
  omega
end Go.Am
namespace Go.Am
open Go
section
variable {cl : Call} {env : Env} {h : Hp} {x y : Opd}
theorem ev_addN2 {a b : Nat} (hx : ev env x = .c (.d (.int .i64 (a : Nat)))) (hy : ev env y = .c (.d (.int .i64 (b : Nat)))) (hb : a + b ≤ 9223372036854775807) : eval cl env h (.bin .add x y) = some (.c (.d (.int .i64 ((a + b : Nat) : Int))), h) := by
  have := ev_add (cl := cl) (h := h) hx hy (by omega) (by omega)
  rw [this, Int.natCast_add]
end
end Go.Am

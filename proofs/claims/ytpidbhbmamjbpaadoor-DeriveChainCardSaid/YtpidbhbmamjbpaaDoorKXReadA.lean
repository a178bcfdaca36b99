/-
  Data of some types: bytes, one byte, numbers of 32 bits.
-/
import Derived.Test.YtpidbhbmamjbpaaDoorSRead2
import Derived.Test.YtpidbhbmamjbpaaDoorSMD
import Derived.Test.YtpidbhbmamjbpaaDoorSMC
import Derived.Test.YtpidbhbmamjbpaaDoorSMB
import Derived.Test.YtpidbhbmamjbpaaDoorSMA
import Derived.Laws.Rows
import Derived.Laws.AppendOwn
import Derived.Calls
import Derived.Tactics
import Derived.Below
import Derived.Laws.RangeString
import Derived.Laws.Strings
import Derived.Laws.BytesArg
import Derived.Laws.CopyRow
import Derived.Laws.StructEq
import Derived.ChangeKeysEq
import Derived.WideKeyRuns
import Derived.Orders
import Derived.ScopeJumps
import Derived.KernelRfl
import Derived.OpenShut
import Derived.Deep.Slices
import Derived.ChangeShapes
import Derived.Test.YtpidbhbmamjbpaaDoorSQU
import Derived.Test.YtpidbhbmamjbpaaDoorSMG
import Derived.Test.YtpidbhbmamjbpaaDoorProg
import Derived.Shelf.Strings.Split
import Derived.Test.YtpidbhbmamjbpaaDoorSMF
import Derived.Test.YtpidbhbmamjbpaaDoorSME
import Derived.Test.YtpidbhbmamjbpaaDoorSCX
import Derived.Lib.BytesEntry
import Derived.Laws.Externs
import Derived.Lib.IndexLaws
import Derived.ChangeArms
import Derived.Test.YtpidbhbmamjbpaaDoorSReadB
namespace Go.Am
open Go
theorem rep_one {w : World} {A : Nat → Prop} {d : D} {v : Value} (h : RepL w A [d] [v]) : RepDV w A (.c d) v := by
  cases h with
  | cons h t => exact .c _ _ h
end Go.Am
namespace Go.Am
open Go
theorem u8_is {ds : List D} (h : (Ty.int .u8).ok ds) : ∃ k : Nat, ds = [.int .u8 (k : Int)] ∧ k < 256 := by
  simp only [Ty.ok] at h
  obtain ⟨n, rfl, hn⟩ := h
  obtain ⟨k, rfl, hk⟩ := u8w_of hn
  exact ⟨k, rfl, hk⟩
end Go.Am

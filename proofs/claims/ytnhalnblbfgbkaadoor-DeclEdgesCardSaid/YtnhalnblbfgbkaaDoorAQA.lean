/-
  A token's kinds; fits.Part.
-/
import Derived.Test.YtnhalnblbfgbkaaDoorAMV
import Derived.Test.YtnhalnblbfgbkaaDoorAQU
import Derived.Test.YtnhalnblbfgbkaaDoorAMI
import Derived.Test.YtnhalnblbfgbkaaDoorAMD
import Derived.Test.YtnhalnblbfgbkaaDoorProg
import Derived.Test.YtnhalnblbfgbkaaDoorAMH
namespace Go.Am
open Go
structure Tk5 where
  k : Int
  a : Int
  b : Int
  s : List UInt8
  e : Int
def tkD (t : Tk5) : List D := [.int .i64 t.k, .int .i64 t.a, .int .i64 t.b, .str t.s, .int .i64 t.e]
theorem tkD_inj {t u : Tk5} (h : tkD t = tkD u) : t = u := by
  cases t
  cases u
  simp only [tkD, List.cons.injEq, D.int.injEq, D.str.injEq, true_and, and_true] at h
  obtain ⟨rfl, rfl, rfl, rfl, rfl⟩ := h
  rfl
end Go.Am

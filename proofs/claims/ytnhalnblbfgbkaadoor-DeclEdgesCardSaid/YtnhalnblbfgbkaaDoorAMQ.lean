/-
  The reference's classes of bytes.
-/
import Derived.Test.YtnhalnblbfgbkaaDoorAME
import Derived.Test.YtnhalnblbfgbkaaDoorAMD
import Derived.Test.YtnhalnblbfgbkaaDoorProg
import Derived.Test.YtnhalnblbfgbkaaDoorAML
import Derived.Test.YtnhalnblbfgbkaaDoorAMF
namespace Go.Am
open Go
theorem numF_step {v : Int} {b : UInt8} {r : List UInt8} (h : v * 10 + ((b.toNat : Int) - 48) ≤ 2147483647) : numF v (b :: r) = numF (v * 10 + ((b.toNat : Int) - 48)) r := by
  simp only [numF]
  rw [if_neg (by omega)]
theorem numF_big {v : Int} {b : UInt8} {r : List UInt8} (h : 2147483647 < v * 10 + ((b.toNat : Int) - 48)) : numF v (b :: r) = none := by
  simp only [numF]
  rw [if_pos h]
theorem slice_take {s s' : List UInt8} {v : Int} {i k : Nat} (h : s' = (s.take v.toNat).drop (i : Int).toNat) (hv : v = i + k) : s' = (s.drop i).take k := by
  subst hv
  rw [h, show ((i : Int) + (k : Int)).toNat = i + k by omega, show ((i : Int)).toNat = i by omega, List.drop_take]
  congr 1
  omega
end Go.Am

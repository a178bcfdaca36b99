/-
  strings.Join; cut texts.
-/
import Derived.Test.YtnhalnblbfgbkaaDoorProg
import Derived.Shelf.Strings.OnBuilder
import Derived.Test.YtnhalnblbfgbkaaDoorAMI
namespace Go.Proofs
open Go.Shelf
def Tryd.lays156_ren : Go.Shelf.Ren := ⟨fun | 156 => 117 | 165 => 127 | 166 => 128 | 169 => 129 | 240 => 138 | 241 => 139 | 276 => 151 | 277 => 152 | n => n, fun | 31 => 72 | 9 => 9 | 3 => 3 | 4 => 4 | 0 => 0 | 20 => 20 | 72 => 185 | 76 => 189 | 70 => 183 | 37 => 41 | 75 => 188 | 127 => 195 | 164 => 204 | 5 => 5 | 80 => 191 | n => n, fun | n => n⟩
theorem Tryd.lays156 : Go.Proofs.Lays.n156 Tryd.prog Tryd.lays156_ren := {
  mixed := by kernel_rfl
  f156 := Tryd.func117.trans (congrArg some (by kernel_rfl))
  f165 := Tryd.func127.trans (congrArg some (by kernel_rfl))
  f166 := Tryd.func128.trans (congrArg some (by kernel_rfl))
  f169 := Tryd.func129.trans (congrArg some (by kernel_rfl))
  f240 := Tryd.func138.trans (congrArg some (by kernel_rfl))
  f241 := Tryd.func139.trans (congrArg some (by kernel_rfl))
  f276 := Tryd.func151.trans (congrArg some (by kernel_rfl))
  f277 := Tryd.func152.trans (congrArg some (by kernel_rfl))
  t0 := Tryd.underlying0
  a0 := Tryd.isAgg0
  z0 := Tryd.sizeOf0
  v0 := Tryd.zeroValue0
  t3 := Tryd.underlying3
  a3 := Tryd.isAgg3
  z3 := Tryd.sizeOf3
  v3 := Tryd.zeroValue3
  t4 := Tryd.underlying4
  a4 := Tryd.isAgg4
  z4 := Tryd.sizeOf4
  v4 := Tryd.zeroValue4
  t9 := Tryd.underlying9
  a9 := Tryd.isAgg9
  z9 := Tryd.sizeOf9
  v9 := Tryd.zeroValue9
  t20 := Tryd.underlying20
  a20 := Tryd.isAgg20
  z20 := Tryd.sizeOf20
  v20 := Tryd.zeroValue20
  t31 := Tryd.underlying72
  a31 := Tryd.isAgg72
  z31 := Tryd.sizeOf72
  v31 := Tryd.zeroValue72
  t37 := Tryd.underlying41
  a37 := Tryd.isAgg41
  z37 := Tryd.sizeOf41
  v37 := Tryd.zeroValue41
  t70 := Tryd.underlying183
  a70 := Tryd.isAgg183
  z70 := Tryd.sizeOf183
  v70 := Tryd.zeroValue183
  t72 := Tryd.underlying185
  a72 := Tryd.isAgg185
  z72 := Tryd.sizeOf185
  v72 := Tryd.zeroValue185
  t75 := Tryd.underlying188
  a75 := Tryd.isAgg188
  z75 := Tryd.sizeOf188
  v75 := Tryd.zeroValue188
  t76 := Tryd.underlying189
  a76 := Tryd.isAgg189
  z76 := Tryd.sizeOf189
  v76 := Tryd.zeroValue189
  t127 := Tryd.underlying195
  a127 := Tryd.isAgg195
  z127 := Tryd.sizeOf195
  v127 := Tryd.zeroValue195
  t164 := Tryd.underlying204
  a164 := Tryd.isAgg204
  z164 := Tryd.sizeOf204
  v164 := Tryd.zeroValue204 }
theorem Tryd.extra156 : Builder.Extra Tryd.prog Tryd.lays156_ren :=
  ⟨⟨by kernel_rfl, by kernel_rfl⟩, Tryd.underlying5, Tryd.isAgg5, Tryd.sizeOf5, Tryd.zeroValue5, by kernel_rfl, by kernel_rfl, by kernel_rfl, by decide⟩
end Go.Proofs
namespace Go.Am
open Go
theorem ev_adds {cl : Call} {e : Env} {h : Hp} {x y : Opd} {s t : List UInt8} (hx : ev e x = .c (.d (.str s))) (hy : ev e y = .c (.d (.str t))) (hl : s.length + t.length ≤ 9223372036854775807) : eval cl e h (.bin .add x y) = some (.c (.d (.str (s ++ t))), h) := by
  simp only [eval, hx, hy, binV, binD, binStr, if_pos hl]
def joinOf (ss : List (List UInt8)) (sep : List UInt8) : List UInt8 := Lib.join ss sep
def joinOk (ss : List (List UInt8)) (sep : List UInt8) : Bool := decide (ss.length ≤ room) && decide ((joinOf ss sep).length ≤ room)
def textOf (v : SV) : List UInt8 := (if v.left then [95] else []) ++ joinOf v.parts [95] ++ (if v.right then [95] else [])
theorem join_single (x : List UInt8) : joinOf [x] [95] = x := by
  simp [joinOf, Lib.join, List.intercalate, List.intersperse]
def mayOf (part : List UInt8 → Bool) (pat : List UInt8) (g a : Int) : Int := match shapeOf part pat with
  | none => 23
  | some v => if g < 1 ∨ 10 ≤ g then 21 else if a = 0 ∨ (a = 1 ∧ v.left = true) ∨ (a = 2 ∧ v.right = true) then 0 else 24
end Go.Am

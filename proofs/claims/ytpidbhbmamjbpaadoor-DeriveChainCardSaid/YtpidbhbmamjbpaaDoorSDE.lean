/-
  DeclEdges: the law's function comes to true, whatever it is given.
-/
import Derived.Test.YtpidbhbmamjbpaaDoorSNI
import Derived.Test.YtpidbhbmamjbpaaDoorSNC
import Derived.Test.YtpidbhbmamjbpaaDoorSNF
import Derived.Test.YtpidbhbmamjbpaaDoorSQA
import Derived.Test.YtpidbhbmamjbpaaDoorSHQ
import Derived.Test.YtpidbhbmamjbpaaDoorSMD
import Derived.Test.YtpidbhbmamjbpaaDoorProg
namespace Go.Am
open Go
def kt (t : Tok) : Int × List UInt8 := (t.kind, t.text)
end Go.Am
namespace Go.Am
open Go
theorem ev_s2b0 {cl : Call} {e : Env} {x : Opd} {nx : Nat} {ob : List (Nat × Ob)} {s : List UInt8} (hx : ev e x = .c (.d (.str s))) (h : s.length ≤ room) : eval cl e ⟨nx, ob⟩ (.s2b x false) = some (.c (.d (.list 1 (encB s))), ⟨nx, ob⟩) := by
  simp only [eval, hx, if_pos h]
end Go.Am
namespace Go.Am
open Go
def tk5 (t : Tok) : Tk5 := ⟨t.kind, t.a, t.b, t.text, t.code⟩
theorem tokC_tk (l : List Tok) : l.map tokC = (l.map tk5).map tkD := by rw [List.map_map]; rfl
def lexT (s : List UInt8) : List Tk5 := (allOf s).map tk5
theorem FAll_T (s : List UInt8) : FAll s = .c (.list 5 ((lexT s).map tkD)) := by unfold FAll lexT; rw [tokC_tk]
end Go.Am
namespace Go.Am
open Go
section
variable {cl : Call} {env : Env} {h : Hp} {x y : Opd}
theorem ev_remN2 {a b : Nat} (hx : ev env x = .c (.d (.int .i64 (a : Nat)))) (hy : ev env y = .c (.d (.int .i64 (b : Nat)))) (hb : 0 < b) : eval cl env h (.bin .rem x y) = some (.c (.d (.int .i64 ((a % b : Nat) : Int))), h) := by
  rw [ev_remN hx hy (by omega) (by omega), Int.natCast_emod]
end
end Go.Am
namespace Go.Am
open Go
def ks (t : Tk5) : Int × List UInt8 := (t.k, t.s)
end Go.Am
namespace Go.Am
open Go
section
variable {cl : Call} {env : Env} {h : Hp} {x y : Opd} {nx : Nat} {ob : List (Nat × Ob)}
theorem ev_toI64 {k : IntKind} {n : Nat} (hx : ev env x = .c (.d (.int k (n : Nat)))) (h1 : n < 9223372036854775808) : eval cl env h (.toInt .i64 x) = some (.c (.d (.int .i64 (n : Nat))), h) := toInt_64 hx (by omega) (by omega)
end
end Go.Am

/-
  WHAT PACKAGE-LEVEL VARIABLES HOLD, oper.simples with them.
-/
import Derived.Test.YtnhalnblbfgbkaaDoorAMD
namespace Go.Am
open Go
def simplesD : List D :=
  [.str [120, 102, 120], .bool true, .bool true, .int .i64 0, .str [120, 102, 121], .bool true, .bool true, .int .i64 2, .str [121, 102, 120], .bool true, .bool true, .int .i64 1, .str [102, 120], .bool false, .bool true, .int .i64 0,
   .str [102, 121], .bool false, .bool true, .int .i64 2, .str [120, 102], .bool true, .bool false, .int .i64 0, .str [121, 102], .bool true, .bool false, .int .i64 1]
def glbS (m : Int) : Nat → Option (List D) := fun g => if g = 1 then some simplesD else glb m g
theorem globS {m : Int} {w : World} {A : Nat → Prop} (h : GlobOk (glbS m) w A) : GlobOk (glb m) w A := by
  intro g ds hg
  refine h g ds ?_
  unfold glbS
  by_cases h0 : g = 1
  · subst h0; cases hg
  · rw [if_neg h0]; exact hg
theorem PureFn.more {P : Program} {gl gl' : Nat → Option (List D)} {f : FuncId} {G : List DV → Option DV} (h : PureFn P gl f G) (hg : ∀ w A, GlobOk gl' w A → GlobOk gl w A) : PureFn P gl' f G :=
  ⟨h.enters, fun w A ds vs r h1 h2 h3 h4 => h.run w A ds vs r (hg w A h1) h2 h3 h4⟩
theorem PureOk.more {P : Program} {gl gl' : Nat → Option (List D)} {f : FuncId} {G : List DV → Option DV} (h : PureOk P gl f G) (hg : ∀ w A, GlobOk gl' w A → GlobOk gl w A) : PureOk P gl' f G :=
  h.elim (fun h => .inl (h.more hg)) (fun h => .inr fun w A ds vs r h1 h2 h3 h4 => h w A ds vs r (hg w A h1) h2 h3 h4)
theorem PureOk.s {P : Program} {m : Int} {f : FuncId} {G : List DV → Option DV} (h : PureOk P (glb m) f G) : PureOk P (glbS m) f G := h.more fun _ _ => globS
end Go.Am

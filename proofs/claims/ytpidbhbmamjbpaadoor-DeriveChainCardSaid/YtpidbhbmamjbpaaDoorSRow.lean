/-
  FROM THE ABSTRACT MACHINE TO A ROW: the world's package-level variables, the witness, the frame.
-/
import Derived.Test.YtpidbhbmamjbpaaDoorRows
import Derived.Test.YtpidbhbmamjbpaaDoorSRead2
import Derived.Test.YtpidbhbmamjbpaaDoorSMD
import Derived.Lib.LaidIn
import Derived.Deep.DeepHandedRow
import Derived.Deep.DeepWitnessRowRef
import Derived.ProofKit
import Derived.SizedLaws
import Derived.Shelf.Vars
import Derived.KernelRfl
namespace Go.Am
open Go
theorem kept_frame {w w' : World} (h : Kept (fun _ => False) w w') (may : MemPlace → Prop) : w.keptBut w' may := by
  refine ⟨h.os, h.output, fun i hi => ?_⟩
  rw [h.block i hi (fun h => h)]
  cases w.heap[i]? with
  | none => rfl
  | some o => cases o <;> first | exact ⟨rfl, rfl, rfl, fun _ _ => rfl⟩ | exact .inr ⟨rfl, rfl⟩ | rfl
theorem back_mono {R R' : Value → World → Prop} (h : ∀ v w, R v w → R' v w) : ∀ e w, back R e w → ∃ v, e = .returned v ∧ R' v w := by
  intro e w hb
  cases e with
  | returned v => exact ⟨v, rfl, h v w hb⟩
  | _ => exact hb.elim
theorem back_bool {w : World} {A : Nat → Prop} {b : Bool} {v : Value} (h : RepDV w A (.c (.bool b)) v) : v = .bool b := by
  cases h with
  | c _ _ h => cases h; rfl
def vOf : Nat → DataW Unit → List Value
  | 0, _ => []
  | n + 1, x => match x with
    | .lit (.int k m) => [.int k m]
    | .lit (.string s) => [.string ⟨s.toArray⟩]
    | .lit (.bool b) => [.bool b]
    | .agg xs => xs.flatMap (vOf n)
    | _ => []
open Go.Proofs Go.Proofs.YtpidbhbmamjbpaaDoor
noncomputable def laidWorld (os : Os) : World :=
  let w0 := World.holding Tryd.prog os ⟨#[], #[], []⟩
  let put (h : Array Obj) (g : Nat) (cs : Array Value) : Array Obj := h.modify g fun
    | .cells _ t frozen => .cells cs t frozen
    | o => o
  let h1 := put w0.heap 0 (vOf 8 Rows.laid_tmesis_class_members).toArray
  let h2 := put h1 3 (vOf 8 Rows.laid_unicode_utf8_acceptRanges).toArray
  let h3 := put h2 2 (vOf 8 Rows.laid_unicode_utf8_first).toArray
  { w0 with heap := h3 }
theorem maxLen_of {W : World} (h : W.ShapedOpen Tryd.prog) : ∃ m, W.cell? ⟨1, 0, none⟩ = some (.int .i64 m) :=
  cell_of_shapedOpen_int (zero := #[.int .i64 0]) (t := 3) h (of_decide_eq_true (by kernel_rfl)) (by kernel_rfl) rfl (by kernel_rfl) (by kernel_rfl) Tryd.underlying3
theorem gMembers : Tryd.prog.globalNamed "tmesis/class.members" = some 0 := by kernel_rfl
end Go.Am

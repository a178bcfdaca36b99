/-
  DeriveFit: of any two operators the law's function comes to true and leaves its arguments as they were. Conditions: class.members, utf8.first and utf8.acceptRanges hold what the program's text lays (the card ties that); of internal/bytealg.MaxLen nothing is asked.
-/
import Derived.Test.YtjcllhljkfhjjaaGreatDoorSRow350
namespace Go.Proofs.YtjcllhljkfhjjaaGreatDoor
open Go
theorem deriveFit_card : Rows.DeriveFitCardSaid :=
  Claim7.holds_tied_plain_at .later [] [.data, .data, .pinned] true (true, "b078dcb03dd4aa73d1fe5d50668b7a20e0dd3a08536f4d8c087b825179a8670a") false
    deriveFit_row (fun _ h => by cases h) (by kernel_rfl) (fun _ h => by cases h) deriveFit_row_tie rfl ⟨rfl, rfl⟩ (by kernel_rfl) rfl
    (fun f fn hf hfn => by
      obtain rfl : f = 3 := Option.some.inj ((show Tryz.prog.funcNamed "tmesis/tmesislaw19.DeriveFit" = some 3 by kernel_rfl).symm.trans hf) |>.symm
      obtain rfl : fn = Tryz.f3 := (Option.some.inj (Tryz.func3.symm.trans hfn)).symm
      exact ⟨by kernel_rfl, fun j t ht => by
        rw [Tryz.params3] at ht
        rcases j with _ | _ | j
        · have e : t = 23 := by simpa using ht.symm
          subst e
          exact (show Tryz.prog.wantsStandIn 23 = false by kernel_rfl)
        · have e : t = 23 := by simpa using ht.symm
          subst e
          exact (show Tryz.prog.wantsStandIn 23 = false by kernel_rfl)
        · simp at ht⟩)
    (by kernel_rfl)
#print axioms deriveFit_card
end Go.Proofs.YtjcllhljkfhjjaaGreatDoor

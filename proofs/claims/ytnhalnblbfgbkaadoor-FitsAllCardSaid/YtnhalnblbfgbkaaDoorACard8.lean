/-
  FitsAll: of any env, any two operators, either side and any token the law's function comes to true and leaves its arguments as they were. Conditions: class.members, utf8.first and utf8.acceptRanges hold what the program's text lays (the card ties that); of internal/bytealg.MaxLen nothing is asked.
-/
import Derived.Test.YtnhalnblbfgbkaaDoorARow8
namespace Go.Proofs.YtnhalnblbfgbkaaDoor
open Go
theorem fitsAll_card : Rows.FitsAllCardSaid :=
  Claim7.holds_tied_plain_at .later [] [.data, .data, .pinned] true (true, "c44f67a7040e1e7e648c15c5cab739c2e8340256c293b741bc9a79fe16c4d103") false
    fitsAll_row (fun _ h => by cases h) (by kernel_rfl) (fun _ h => by cases h) fitsAll_row_tie rfl ⟨rfl, rfl⟩ (by kernel_rfl) rfl
    (fun f fn hf hfn => by
      obtain rfl : f = 3 := Option.some.inj ((show Tryd.prog.funcNamed "tmesis/tmesislaw17.FitsAll" = some 3 by kernel_rfl).symm.trans hf) |>.symm
      obtain rfl : fn = Tryd.f3 := (Option.some.inj (Tryd.func3.symm.trans hfn)).symm
      exact ⟨by kernel_rfl, fun j t ht => by
        rw [Tryd.params3] at ht
        rcases j with _ | _ | _ | j
        · have e : t = 26 := by simpa using ht.symm
          subst e
          exact (show Tryd.prog.wantsStandIn 26 = false by kernel_rfl)
        · have e : t = 30 := by simpa using ht.symm
          subst e
          exact (show Tryd.prog.wantsStandIn 30 = false by kernel_rfl)
        · have e : t = 33 := by simpa using ht.symm
          subst e
          exact (show Tryd.prog.wantsStandIn 33 = false by kernel_rfl)
        · simp at ht⟩)
    (by kernel_rfl)
#print axioms fitsAll_card
end Go.Proofs.YtnhalnblbfgbkaaDoor

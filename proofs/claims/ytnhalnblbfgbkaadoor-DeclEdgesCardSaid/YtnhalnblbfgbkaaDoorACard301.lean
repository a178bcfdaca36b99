/-
  DeclEdges: of any two numbers of 32 bits and any byte the law's function comes to true and leaves its arguments as they were. Conditions: class.members, oper.simples, utf8.first and utf8.acceptRanges hold what the program's text lays (the card ties that); of internal/bytealg.MaxLen nothing is asked.
-/
import Derived.Test.YtnhalnblbfgbkaaDoorARow301
namespace Go.Proofs.YtnhalnblbfgbkaaDoor
open Go
theorem declEdges_card : Rows.DeclEdgesCardSaid :=
  Claim7.holds_tied_plain_at .later [] [.data, .data, .data, .pinned] true (true, "c44f67a7040e1e7e648c15c5cab739c2e8340256c293b741bc9a79fe16c4d103") false
    declEdges_row (fun _ h => by cases h) (by kernel_rfl) (fun _ h => by cases h) declEdges_row_tie rfl ⟨rfl, rfl⟩ (by kernel_rfl) rfl
    (fun f fn hf hfn => by
      obtain rfl : f = 5 := Option.some.inj ((show Tryd.prog.funcNamed "tmesis/tmesislaw15.DeclEdges" = some 5 by kernel_rfl).symm.trans hf) |>.symm
      obtain rfl : fn = Tryd.f5 := (Option.some.inj (Tryd.func5.symm.trans hfn)).symm
      exact ⟨by kernel_rfl, fun j t ht => by
        rw [Tryd.params5] at ht
        rcases j with _ | _ | _ | j
        · have e : t = 54 := by simpa using ht.symm
          subst e
          exact (show Tryd.prog.wantsStandIn 54 = false by kernel_rfl)
        · have e : t = 54 := by simpa using ht.symm
          subst e
          exact (show Tryd.prog.wantsStandIn 54 = false by kernel_rfl)
        · have e : t = 5 := by simpa using ht.symm
          subst e
          exact (show Tryd.prog.wantsStandIn 5 = false by kernel_rfl)
        · simp at ht⟩)
    (by kernel_rfl)
#print axioms declEdges_card
end Go.Proofs.YtnhalnblbfgbkaaDoor

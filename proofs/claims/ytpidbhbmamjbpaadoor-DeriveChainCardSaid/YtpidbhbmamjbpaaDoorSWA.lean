/-
  slices.Clone and slices.Insert (at the end) of operators: what they do in any world.
-/
import Derived.Test.YtpidbhbmamjbpaaDoorSMD
import Derived.Test.YtpidbhbmamjbpaaDoorProg
import Derived.WalkKit
import Derived.Lib.Walk
import Derived.Lib.SliceRun
import Derived.Lib.AppendZeros
import Derived.OwnWalk
namespace Go.Am
open Go
set_option maxHeartbeats 4000000 in
set_option maxRecDepth 100000 in
theorem clone_none (c : Nat) (w : World) : Calls Go.Proofs.Tryd.prog 30 #[.slice none 0 c] w fun e w' => e = .returned (.slice none 0 0) ∧ w' = w := by
  have q22 : ∀ (w : World) (a : Option Addr) (n c n' c' : Nat), (binOp .eql 24 (.slice a n c) (.slice none n' c')).run Go.Proofs.Tryd.prog w = .ok (.bool a.isNone) w := fun w a n c n' c' => Lib.run_eql_slice_nil w _ _ a n c n' c' Go.Proofs.Tryd.underlying24
  have u22 : ∀ w, Sem.run Go.Proofs.Tryd.prog (underlying 24) w = .ok (TypeDesc.slice 31) w := run_underlying Go.Proofs.Tryd.underlying24
  go_enter Go.Proofs.Tryd.func30, Go.Proofs.Tryd.ntmps30
  go_wp2
  go_ret
  exact ⟨rfl, rfl⟩
set_option maxHeartbeats 4000000 in
set_option maxRecDepth 100000 in
theorem clone_some (ad : Addr) (n c : Nat) (w w1 : World) (r : Value) (hrun : (Builtin.append_ #[24, 24] 24 #[.slice (some ⟨w.heap.size, 0, none⟩) 0 0, .slice (some ad) n c]).run Go.Proofs.Tryd.prog (w.alloc (.cells #[] 31)) = .ok r w1) :
    Calls Go.Proofs.Tryd.prog 30 #[.slice (some ad) n c] w fun e w' => e = .returned r ∧ w' = w1 := by
  have q22 : ∀ (w : World) (a : Option Addr) (n c n' c' : Nat), (binOp .eql 24 (.slice a n c) (.slice none n' c')).run Go.Proofs.Tryd.prog w = .ok (.bool a.isNone) w := fun w a n c n' c' => Lib.run_eql_slice_nil w _ _ a n c n' c' Go.Proofs.Tryd.underlying24
  have u22 : ∀ w, Sem.run Go.Proofs.Tryd.prog (underlying 24) w = .ok (TypeDesc.slice 31) w := run_underlying Go.Proofs.Tryd.underlying24
  obtain ⟨i0, hi0, hz0, hzs, hzb⟩ := info_parts (P := Go.Proofs.Tryd.prog) (e := 31) (z := .agg #[.string ⟨#[]⟩, .int .i64 0, .int .i64 0]) (size := 3) (bytes := 32) (by kernel_rfl)
  have z28 : ∀ w, Sem.run Go.Proofs.Tryd.prog (Go.sizeOf 31) w = .ok 3 w := fun w => by simp [Go.sizeOf, typeInfo, hi0, hzs]
  go_enter Go.Proofs.Tryd.func30, Go.Proofs.Tryd.ntmps30
  go_wp2_with (at_builtin; refine Lib.wpList_append_run _ rfl _ _ _ _ rfl _ _ rfl rfl _ _ hrun ?_)
  go_ret
  exact ⟨rfl, rfl⟩
set_option maxHeartbeats 4000000 in
set_option maxRecDepth 100000 in
theorem insert_end (a : Option Addr) (n c : Nat) (b' : Option Addr) (cp : Nat) (w w1 : World) (r : Value) (hn : n ≤ c) (hnil : a = none → n = 0)
    (hrun : (Builtin.append_ #[24, 24] 24 #[.slice a n c, .slice b' 1 cp]).run Go.Proofs.Tryd.prog w = .ok r w1) :
    Calls Go.Proofs.Tryd.prog 31 #[.slice a n c, .int .i64 n, .slice b' 1 cp] w fun e w' => e = .returned r ∧ w' = w1 := by
  have u22 : ∀ w, Sem.run Go.Proofs.Tryd.prog (underlying 24) w = .ok (TypeDesc.slice 31) w := run_underlying Go.Proofs.Tryd.underlying24
  have u3 := run_underlying Go.Proofs.Tryd.underlying3
  obtain ⟨i0, hi0, hz0, hzs, hzb⟩ := info_parts (P := Go.Proofs.Tryd.prog) (e := 31) (z := .agg #[.string ⟨#[]⟩, .int .i64 0, .int .i64 0]) (size := 3) (bytes := 32) (by kernel_rfl)
  have z28 : ∀ w, Sem.run Go.Proofs.Tryd.prog (Go.sizeOf 31) w = .ok 3 w := fun w => by simp [Go.sizeOf, typeInfo, hi0, hzs]
  have hz1 : ¬ ((1 : Int) = 0) := by omega
  go_enter Go.Proofs.Tryd.func31, Go.Proofs.Tryd.ntmps31
  cases a with
  | none =>
    have h0 := hnil rfl
    subst h0
    go_wp2_with (at_builtin; refine Lib.wpList_append_run _ rfl _ _ _ _ rfl _ _ rfl rfl _ _ hrun ?_)
    go_ret
    exact ⟨rfl, rfl⟩
  | some ad =>
    obtain ⟨ab, ao, asp⟩ := ad
    go_wp2_with (at_builtin; refine Lib.wpList_append_run _ rfl _ _ _ _ rfl _ _ rfl rfl _ _ hrun ?_)
    all_goals (go_ret; exact ⟨rfl, rfl⟩)
end Go.Am

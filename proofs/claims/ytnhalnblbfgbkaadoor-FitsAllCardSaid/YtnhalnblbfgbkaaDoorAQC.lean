/-
  What stands at the head of the laws of chapter 17.
-/
import Derived.Test.YtnhalnblbfgbkaaDoorAMY
import Derived.Test.YtnhalnblbfgbkaaDoorAMG
namespace Go.Am
open Go
theorem sg43 : single [43] 2 := ⟨43, rfl, .inr (.inl ⟨by decide, rfl, by decide, by decide, by decide⟩)⟩
theorem sg42 : single [42] 2 := ⟨42, rfl, .inr (.inl ⟨by decide, rfl, by decide, by decide, by decide⟩)⟩
section
variable {G : List DV → Option DV}
theorem pv43 (hG : KB R37 G) : partV G [43] = true := by rw [partV_single hG (by decide) sg43 (by decide)]; decide
theorem pv42 (hG : KB R37 G) : partV G [42] = true := by rw [partV_single hG (by decide) sg42 (by decide)]; decide
theorem sh_plus (hG : KB R37 G) : shapeOf (partV G) [95, 43, 95] = some ⟨[[43]], true, true⟩ := by
  have e : trim (cutU 95 [95, 43, 95]) = ⟨[[43]], true, true⟩ := rfl
  rw [shapeOf_of (by decide) (by rw [e]; exact mayS_t (by decide) (by decide) (fun _ => .inl rfl) (by simp [badS, pv43 hG])), e]
theorem sh_times (hG : KB R37 G) : shapeOf (partV G) [95, 42, 95] = some ⟨[[42]], true, true⟩ := by
  have e : trim (cutU 95 [95, 42, 95]) = ⟨[[42]], true, true⟩ := rfl
  rw [shapeOf_of (by decide) (by rw [e]; exact mayS_t (by decide) (by decide) (fun _ => .inl rfl) (by simp [badS, pv42 hG])), e]
def opPlus : Op3 := ⟨[95, 43, 95], 3, 1⟩
def opTimes : Op3 := ⟨[95, 42, 95], 2, 1⟩
theorem ex1 (hG : KB R37 G) : fitsOf (partV G) (liftF startF) opPlus opTimes true = true := by
  simp only [fitsOf, opPlus, opTimes, sh_plus hG, sh_times hG]
  decide +kernel
theorem ex2 (hG : KB R37 G) : fitsOf (partV G) (liftF startF) opPlus opTimes false = true := by
  simp only [fitsOf, opPlus, opTimes, sh_plus hG, sh_times hG]
  decide +kernel
theorem ex3 (hG : KB R37 G) : fitsOf (partV G) (liftF startF) opPlus opPlus false = true := by
  simp only [fitsOf, opPlus, sh_plus hG]
  decide +kernel
theorem ex4 (hG : KB R37 G) : fitsOf (partV G) (liftF startF) opPlus opPlus true = false := by
  simp only [fitsOf, opPlus, sh_plus hG]
  decide +kernel
theorem ex5 (hG : KB R37 G) : fitsOf (partV G) (liftF startF) opTimes opPlus false = false := by
  simp only [fitsOf, opPlus, opTimes, sh_plus hG, sh_times hG]
  decide +kernel
end
def G20 : List DV → Option DV
  | [] => some (.c (.bool true))
  | _ => none
set_option maxRecDepth 8000 in
set_option maxHeartbeats 4000000 in
theorem w20 {G : List DV → Option DV} (hG : KB R37 G) (ds : List DV) (r : DV) (h : G20 ds = some r) : awp (tbl [(12, T23 (partV G)), (29, G48)]) c20 (PureQ [.t 0] r) ⟨argE 0 (dvArgs ds), ⟨0, []⟩⟩ := by
  unfold G20 at h
  split at h
  · cases h
    have h48 : G48 [] = some (.agg (.list 0 [] :: rowsD fun x => (startF x : Int))) := rfl
    have h1 := T23_eq (partV G) (liftF startF) opPlus opTimes true
    have h2 := T23_eq (partV G) (liftF startF) opPlus opTimes false
    have h3 := T23_eq (partV G) (liftF startF) opPlus opPlus false
    have h4 := T23_eq (partV G) (liftF startF) opPlus opPlus true
    have h5 := T23_eq (partV G) (liftF startF) opTimes opPlus false
    rw [ex1 hG] at h1
    rw [ex2 hG] at h2
    rw [ex3 hG] at h3
    rw [ex4 hG] at h4
    rw [ex5 hG] at h5
    unfold c20
    repeat' first
      | refine GoH ?_
      | ((with_reducible apply Z1 (f := 29));rfl;rfl;rfl;exact h48;rfl)
      | ((with_reducible apply Z1 (f := 12));rfl;rfl;rfl;exact h1;rfl)
      | ((with_reducible apply Z1 (f := 12));rfl;rfl;rfl;exact h2;rfl)
      | ((with_reducible apply Z1 (f := 12));rfl;rfl;rfl;exact h3;rfl)
      | ((with_reducible apply Z1 (f := 12));rfl;rfl;rfl;exact h4;rfl)
      | ((with_reducible apply Z1 (f := 12));rfl;rfl;rfl;exact h5;rfl)
      | refine ZB rfl ?_|refine ZC rfl ?_
    exact ⟨_, rfl, rfl⟩
  · cases h
theorem pok20 {m : Int} {G : List DV → Option DV} (hG : KB R37 G) (h : PureOk Go.Proofs.Tryd.prog (glb m) 30 (G19 (partV G))) : PureOk Go.Proofs.Tryd.prog (glb m) 9 G20 := pure_ok (fn20 m) (callOk_cons (pok23 h) (callOk_cons (pok48 m) (callOk_nil _ _))) (w20 hG)
end Go.Am

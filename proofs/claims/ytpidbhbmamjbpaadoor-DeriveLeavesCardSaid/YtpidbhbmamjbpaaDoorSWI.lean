/-
  One token, and none: the plain law of DeriveLeaves.
-/
import Derived.Test.YtpidbhbmamjbpaaDoorSWF
namespace Go.Am
open Go
section
variable {c : Drv} {q : Nat → Nat → Bool → Bool → List (List Nd5)} {v : SV}
theorem ways_one1 (hh : v.right = true ∨ 2 ≤ v.parts.length) : ∀ n, c.waysL q 0 1 v n 1 false 1 = []
  | 0 => rfl
  | n + 1 => by
    have ho : ∃ x, opn v 1 false = some x := by
      unfold opn
      rw [if_neg (by omega)]
      by_cases h1 : 1 = v.parts.length
      · rw [if_pos h1]
        have hr := hh.resolve_right (by omega)
        rw [hr]
        exact ⟨_, rfl⟩
      · rw [if_neg h1]
        exact ⟨_, rfl⟩
    obtain ⟨⟨o, r⟩, ho⟩ := ho
    unfold Drv.waysL
    rw [ho]
    rfl
theorem ways_one (hp : v.parts ≠ []) (hh : v.left = true ∨ v.right = true ∨ 2 ≤ v.parts.length) : ∀ n, c.waysL q 0 1 v n 0 false 0 = []
  | 0 => rfl
  | n + 1 => by
    unfold Drv.waysL
    by_cases hl : v.left = true
    · have ho : opn v 0 false = some (true, false) := by unfold opn; rw [hl]; rfl
      rw [ho]
      rfl
    · have ho : opn v 0 false = none := by unfold opn; rw [Bool.not_eq_true] at hl; rw [hl]; rfl
      rw [ho]
      simp only
      rw [if_neg (by intro e; exact hp (List.length_eq_zero_iff.1 e.symm)), ways_one1 (hh.resolve_left hl)]
      split <;> rfl
end
theorem alls_one {c : Drv} (h : ∀ k, k < c.ops.length → (c.sh k).parts ≠ [] ∧ ((c.sh k).left = true ∨ (c.sh k).right = true ∨ 2 ≤ (c.sh k).parts.length)) :
    c.alls 0 false false 0 1 = if c.leaf 0 = true then [[⟨1, (c.tk 0).s, 0, 1, 0⟩]] else [] := by
  have h1 : ∀ k ∈ List.range c.ops.length, (if c.fitT 0 (some k) false false = true then c.trees 0 1 (some k) else []) = [] := fun k hk => by
    obtain ⟨hp, hh⟩ := h k (List.mem_range.1 hk)
    have : c.trees 0 1 (some k) = [] := by
      show c.treesStep (c.treesF 0) 0 1 (some k) = []
      unfold Drv.treesStep
      rw [if_neg (by omega)]
      simp only
      rw [ways_one hp hh]
      rfl
    rw [this]
    split <;> rfl
  have h2 : (List.range c.ops.length).flatMap (fun k => if c.fitT 0 (some k) false false = true then c.trees 0 1 (some k) else []) = [] := by
    rw [List.flatMap_eq_nil_iff]
    exact h1
  show c.trees 0 1 none ++ _ = _
  rw [h2, List.append_nil]
  show c.treesStep (c.treesF 0) 0 1 none = _
  unfold Drv.treesStep
  rw [if_neg (by omega)]
  simp only
  by_cases hl : c.leaf 0 = true
  · rw [if_pos ⟨trivial, hl⟩, if_pos hl]
    rfl
  · rw [if_neg (fun h => hl h.2), if_neg hl, if_neg (by omega)]
theorem alls_none {c : Drv} : c.alls 0 false false 0 0 = [] := by
  show c.trees 0 0 none ++ (List.range c.ops.length).flatMap (fun k => if c.fitT 0 (some k) false false = true then c.trees 0 0 (some k) else []) = []
  have : ∀ top, c.trees 0 0 top = [] := fun _ => rfl
  simp [this]
theorem cnt_none (ops : List Op3) (f : Nat → Int) : cntDV (drvOf ops f []) = .tup [.c (.int .i64 0), .c (.list 0 [])] := by
  have h : (drvOf ops f []).A 0 false false 0 0 = 0 := by rw [A_alls, alls_none]; rfl
  unfold cntDV
  show (if (drvOf ops f []).A 0 false false 0 0 = 1 then _ else DV.tup [.c (.int .i64 (((drvOf ops f []).A 0 false false 0 0 : Nat) : Int)), .c (.list 0 [])]) = _
  rw [h]
  rfl
def lvL : List Op3 := [⟨[95, 43, 95], 3, 0⟩, ⟨[105, 102, 95, 116, 104, 101, 110, 95], 5, 0⟩, ⟨[91, 95, 93], 2, 0⟩]
def lvE : List Op3 := [⟨[91, 95, 93], 2, 0⟩, ⟨[95, 43, 95], 3, 0⟩, ⟨[105, 102, 95, 116, 104, 101, 110, 95], 5, 0⟩]
theorem lv_add : withL lvL [] = lvE := by kernel_rfl
theorem lv1 : shapeOf partE [91, 95, 93] = some ⟨[[91], [93]], false, false⟩ := by kernel_rfl
theorem lv2 : shapeOf partE [95, 43, 95] = some ⟨[[43]], true, true⟩ := by kernel_rfl
theorem lv3 : shapeOf partE [105, 102, 95, 116, 104, 101, 110, 95] = some ⟨[[105, 102], [116, 104, 101, 110]], false, true⟩ := by kernel_rfl
def lvPart (s : List UInt8) : Bool := decide (s = [43]) || decide (s = [105, 102]) || decide (s = [116, 104, 101, 110]) || decide (s = [91]) || decide (s = [93])
def lvAlone (u : Tk5) : Bool := memI [3, 4, 5] u.k || (memI [1, 2] u.k && !lvPart u.s)
theorem lv_ents (f : Nat → Int) (s : List UInt8) : (entsOf partE f s lvE).isEmpty = !lvPart s := by
  unfold entsOf lvE
  simp only [List.filter, hasOp, lv1, lv2, lv3]
  unfold lvPart
  by_cases h1 : s = [43]
  · subst h1; rfl
  by_cases h2 : s = [105, 102]
  · subst h2; rfl
  by_cases h3 : s = [116, 104, 101, 110]
  · subst h3; rfl
  by_cases h4 : s = [91]
  · subst h4; rfl
  by_cases h5 : s = [93]
  · subst h5; rfl
  have k1 : hasS [[91], [93]] s = false := by simp [hasS, idxOf, h4, h5]
  have k2 : hasS [[43]] s = false := by simp [hasS, idxOf, h1]
  have k3 : hasS [[105, 102], [116, 104, 101, 110]] s = false := by simp [hasS, idxOf, h2, h3]
  rw [k1, k2, k3]
  simp [h1, h2, h3, h4, h5]
theorem lv_cnt (u : Tk5) (e s : Nat) : T312 [.agg (envD e lvE (liftF startF)), .c (.list s [tkD u])] = some (if lvAlone u = true then .tup [.c (.int .i64 1), .c (.list 5 [ndD ⟨1, u.s, 0, 1, 0⟩])] else .tup [.c (.int .i64 0), .c (.list 0 [])]) := by
  rw [show [tkD u] = [u].map tkD from rfl, T312_eq ⟨by decide, by show 1 ≤ 1000; decide⟩]
  have ha := alls_one (c := drvOf lvE (liftF startF) [u]) (by
    intro k hk
    have hk : k < 3 := hk
    match k, hk with
    | 0, _ =>
      have e : (drvOf lvE (liftF startF) [u]).sh 0 = ⟨[[91], [93]], false, false⟩ := by show shOf partE ⟨[91, 95, 93], 2, 0⟩ = _; unfold shOf; rw [lv1]
      rw [e]
      exact ⟨nofun, .inr (.inr (by decide))⟩
    | 1, _ =>
      have e : (drvOf lvE (liftF startF) [u]).sh 1 = ⟨[[43]], true, true⟩ := by show shOf partE ⟨[95, 43, 95], 3, 0⟩ = _; unfold shOf; rw [lv2]
      rw [e]
      exact ⟨nofun, .inl rfl⟩
    | 2, _ =>
      have e : (drvOf lvE (liftF startF) [u]).sh 2 = ⟨[[105, 102], [116, 104, 101, 110]], false, true⟩ := by show shOf partE ⟨[105, 102, 95, 116, 104, 101, 110, 95], 5, 0⟩ = _; unfold shOf; rw [lv3]
      rw [e]
      exact ⟨nofun, .inr (.inl rfl)⟩)
  rw [cnt_res (L := _) ha (by show 0 < 1; decide)]
  have hl : (drvOf lvE (liftF startF) [u]).leaf 0 = lvAlone u := by
    show leafB u.k (entsOf partE (liftF startF) u.s lvE).isEmpty = _
    rw [lv_ents]
    rfl
  rw [hl]
  split <;> rfl
end Go.Am

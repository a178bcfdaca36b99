/-
  All trees, computed in an order that is cheap.
-/
import Derived.Test.YtpidbhbmamjbpaaDoorST1
namespace Go.Am
open Go
def sameT (t u : Tk5) : Prop := t.k = u.k ∧ t.s = u.s
structure Alike (c c' : Drv) (d a b : Nat) : Prop where
  len : c'.ops.length = c.ops.length
  sh : ∀ k, c'.sh k = c.sh k
  pat : ∀ k, (c'.op k).pat = (c.op k).pat
  fitT : ∀ o t u r, c'.fitT o t u r = c.fitT o t u r
  leaf : ∀ i, a ≤ i → i < b → c'.leaf (i + d) = c.leaf i
  tk : ∀ i, a ≤ i → i < b → sameT (c.tk i) (c'.tk (i + d))
theorem Alike.of {c c' : Drv} {d a b : Nat} (part : c'.part = c.part) (fit : c'.fit = c.fit) (ops : c'.ops = c.ops) (lf : ∀ t u, sameT t u → c'.lf u = c.lf t) (tk : ∀ i, a ≤ i → i < b → sameT (c.tk i) (c'.tk (i + d))) : Alike c c' d a b where
  len := by rw [ops]
  sh := fun k => by unfold Drv.sh Drv.op; rw [part, ops]
  pat := fun k => by unfold Drv.op; rw [ops]
  fitT := fun o t u r => by unfold Drv.fitT Drv.op; rw [fit, ops]
  leaf := fun i h1 h2 => lf _ _ (tk i h1 h2)
  tk := tk
variable {c c' : Drv} {d a b : Nat}
end Go.Am
namespace Go.Am
open Go
def depI (t : Tk5) : Int := if soloK t [40] = true then 1 else if soloK t [41] = true then -1 else 0
def depL : List Tk5 → Int
  | [] => 0
  | t :: r => depI t + depL r
def Drv.dep (c : Drv) (i : Nat) : Int := depL (c.toks.take i)
theorem depL_app : ∀ a b : List Tk5, depL (a ++ b) = depL a + depL b
  | [], b => by simp [depL]
  | t :: r, b => by simp only [List.cons_append, depL, depL_app r b]; omega
theorem depI_no {t : Tk5} (h : t.k ≠ 6) : depI t = 0 := by
  unfold depI soloK
  rw [decide_eq_false h]
  simp
theorem depI_noTk : depI noTk = 0 := depI_no (by decide)
theorem dep_succ (c : Drv) (i : Nat) : c.dep (i + 1) = c.dep i + depI (c.tk i) := by
  unfold Drv.dep Drv.tk
  by_cases h : i < c.toks.length
  · rw [List.take_add_one, depL_app, List.getElem?_eq_getElem h, List.getD_eq_getElem?_getD, List.getElem?_eq_getElem h]
    simp [depL]
  · rw [List.take_of_length_le (by omega), List.take_of_length_le (by omega), List.getD_eq_getElem?_getD, List.getElem?_eq_none (by omega)]
    simp [depI_noTk]
structure NoBr (c : Drv) : Prop where
  lf : ∀ t, c.lf t = true → t.k ≠ 6
  pt : ∀ k, ∀ p ∈ (c.sh k).parts, p ≠ [40] ∧ p ≠ [41] ∧ p ≠ []
def Bal (c : Drv) (a b : Nat) : Prop := (∀ i, a ≤ i → i ≤ b → c.dep a ≤ c.dep i) ∧ c.dep b = c.dep a
variable {c : Drv}
theorem Bal.refl (a : Nat) : Bal c a a := ⟨fun i h1 h2 => by rw [show i = a by omega]; exact Int.le_refl _, rfl⟩
theorem Bal.trans {x y z : Nat} (h : Bal c x y) (k : Bal c y z) : Bal c x z :=
  ⟨fun i h1 h2 => by
    by_cases hi : i ≤ y
    · exact h.1 i h1 hi
    · have := k.1 i (by omega) h2
      have := h.2
      omega, by rw [k.2, h.2]⟩
theorem Bal.one {i : Nat} (h : depI (c.tk i) = 0) : Bal c i (i + 1) := by
  have e := dep_succ c i
  rw [h, Int.add_zero] at e
  refine ⟨fun j h1 h2 => ?_, e⟩
  have : j = i ∨ j = i + 1 := by omega
  rcases this with rfl | rfl
  · exact Int.le_refl _
  · rw [e]; exact Int.le_refl _
def Drv.put (c : Drv) (l : List Tk5) : Drv := { c with toks := l }
end Go.Am
namespace Go.Am
open Go
def joinZ (rest : List (List Nd5 × Nat)) (q : Unit → List (List Nd5)) : List (List Nd5 × Nat) := match rest with
  | [] => []
  | x :: r => (q ()).flatMap fun t => (x :: r).map fun x => (t ++ x.1, x.2 + 1)
theorem joinZ_eq (rest : List (List Nd5 × Nat)) (q : Unit → List (List Nd5)) : joinZ rest q = (q ()).flatMap fun t => rest.map fun x => (t ++ x.1, x.2 + 1) := by
  cases rest with
  | nil => simp only [joinZ, List.map_nil]; induction q () with | nil => rfl | cons _ _ _ => simp
  | cons x r => rfl
def flatZ {α : Type} (f : Nat → List α) : Nat → Nat → List α
  | _, 0 => []
  | i, n + 1 => f i ++ flatZ f (i + 1) n
theorem flatZ_eq {α : Type} (f : Nat → List α) : ∀ (n i : Nat), flatZ f i n = (List.range n).flatMap fun j => f (i + j)
  | 0, _ => rfl
  | n + 1, i => by
    unfold flatZ
    rw [flatZ_eq f n (i + 1), List.range_succ_eq_map, List.flatMap_cons, List.flatMap_map]
    congr 1
    refine flat_congr fun j _ => ?_
    rw [show i + 1 + j = i + (j + 1) by omega]
def Drv.waysZ (c : Drv) (q : Nat → Nat → Bool → Bool → List (List Nd5)) (a b : Nat) (v : SV) : Nat → Nat → Bool → Nat → List (List Nd5 × Nat)
  | 0, _, _, _ => []
  | n + 1, p, done, i => match opn v p done with
    | none => if p = v.parts.length then (if i = b then [([], 0)] else [])
      else if i < b then (match partK (c.tk i) (v.parts.getD p []) with | true => c.waysZ q a b v n (p + 1) false (i + 1) | false => []) else []
    | some (o, r) => flatZ (fun j => if j + 1 = b - a then [] else joinZ (c.waysZ q a b v n p true (i + 1 + j)) (fun _ => q i (i + 1 + j) o r)) 0 (b - i)
def Drv.anyZ (c : Drv) (q : Nat → Nat → Option Nat → List (List Nd5)) (o : Nat) (outer right : Bool) (a b : Nat) : List (List Nd5) :=
  q a b none ++ flatZ (fun k => match c.fitT o (some k) outer right with | true => q a b (some k) | false => []) 0 c.ops.length
def Drv.stepZ (c : Drv) (q : Nat → Nat → Option Nat → List (List Nd5)) (a b : Nat) (top : Option Nat) : List (List Nd5) :=
  if b ≤ a then [] else match top with
    | some k => (c.waysZ (fun x y o r => c.anyZ q k o r x y) a b (c.sh k) (fuelOf (c.sh k) 0 false) 0 false a).map fun x => ⟨3, (c.op k).pat, (a : Nat), (b : Nat), (x.2 : Nat)⟩ :: x.1
    | none => if b = a + 1 ∧ c.leaf a = true then [[⟨1, (c.tk a).s, (a : Nat), (b : Nat), 0⟩]]
      else if a + 2 < b ∧ c.solo a [40] = true ∧ c.solo (b - 1) [41] = true then (c.anyZ q 0 false false (a + 1) (b - 1)).map fun t => ⟨2, [], (a : Nat), (b : Nat), 1⟩ :: t else []
def Drv.treesZ (c : Drv) : Nat → Nat → Nat → Option Nat → List (List Nd5)
  | 0, _, _, _ => []
  | n + 1, a, b, top => c.stepZ (c.treesZ n) a b top
variable {c : Drv}
theorem waysZ_eq (q : Nat → Nat → Bool → Bool → List (List Nd5)) (a b : Nat) (v : SV) : ∀ (n p : Nat) (done : Bool) (i : Nat), c.waysZ q a b v n p done i = c.waysL q a b v n p done i
  | 0, _, _, _ => rfl
  | n + 1, p, done, i => by
    unfold Drv.waysZ Drv.waysL
    cases opn v p done with
    | none =>
      simp only
      by_cases hp : p = v.parts.length
      · rw [if_pos hp, if_pos hp]
      · rw [if_neg hp, if_neg hp]
        by_cases hi : i < b
        · rw [if_pos hi]
          cases hk : partK (c.tk i) (v.parts.getD p []) with
          | true => rw [if_pos ⟨hi, rfl⟩]; exact waysZ_eq q a b v n (p + 1) false (i + 1)
          | false => rw [if_neg (by simp)]
        · rw [if_neg hi, if_neg (fun h => hi h.1)]
    | some w =>
      obtain ⟨o, r⟩ := w
      simp only
      rw [flatZ_eq]
      refine flat_congr fun j _ => ?_
      rw [Nat.zero_add]
      by_cases hj : j + 1 = b - a
      · rw [if_pos hj, if_pos hj]
      · rw [if_neg hj, if_neg hj, joinZ_eq, waysZ_eq q a b v n p true (i + 1 + j)]
theorem anyZ_eq (q : Nat → Nat → Option Nat → List (List Nd5)) (o : Nat) (outer right : Bool) (a b : Nat) : c.anyZ q o outer right a b = c.anyL q o outer right a b := by
  unfold Drv.anyZ Drv.anyL
  rw [flatZ_eq]
  congr 1
  refine flat_congr fun k _ => ?_
  rw [Nat.zero_add]
  cases c.fitT o (some k) outer right <;> rfl
theorem treesZ_eq : ∀ (n a b : Nat) (top : Option Nat), c.treesZ n a b top = c.treesF n a b top
  | 0, _, _, _ => rfl
  | n + 1, a, b, top => by
    show c.stepZ (c.treesZ n) a b top = c.treesStep (c.treesF n) a b top
    have h : c.treesZ n = c.treesF n := by funext a b t; exact treesZ_eq n a b t
    unfold Drv.stepZ Drv.treesStep
    rw [h]
    simp only [waysZ_eq, anyZ_eq]
    rfl
def Drv.allZ (c : Drv) (a b : Nat) : List (List Nd5) := c.anyZ (c.treesZ (b - a)) 0 false false a b
theorem allZ_eq (a b : Nat) : c.allZ a b = c.alls 0 false false a b := by
  unfold Drv.allZ Drv.alls
  rw [anyZ_eq]
  exact anyL_congr (fun top => by rw [treesZ_eq]; rfl) 0 false false
end Go.Am
